/- The evaluator. -/
import Derived.Test.YtdlbbdbbpoggfaaLib3
set_option linter.unusedVariables false
set_option linter.unusedSectionVars false
set_option linter.unusedSimpArgs false
section
namespace Go.Ab
variable [b4]
structure SR (G : Gh) (w : World) (st : St) (a : Act) : Prop where
 memr : aF G w st.mem
 len : st.tmps.length = a.tmps.size
 tmps : ∀ (j : Nat) (x : AV), st.tmps[j]? = some x → eL x = true ∨ VR G w x (a.tmps.getD j undef)
 defers : a.defers = []
structure CS (G0 : Gh) (w0 : World) (old : List (Option Bool)) (G : Gh) (w : World) : Prop where
 ev : Ev G0 w0 w
 mine : G.mine = G0.mine
 prot : ∀ β B o, G0.prot β B o → G.prot β B o
 new : ∀ β B o, G.prot β B o → G0.prot β B o ∨ G0.mine B
 keep : ∀ (j : Nat) (k : Bool), old[j]? = some (some k) → ∀ L, G0.loc j 0 = some L → G.loc j 0 = some L
theorem CS.refl (G : Gh) (w : World) (old : List (Option Bool)) : CS G w old G w := ⟨Ev.refl G w, rfl, fun _ _ _ h => h, fun _ _ _ h => .inl h, fun _ _ _ _ h => h⟩
theorem CS.step {G0 : Gh} {w0 : World} {old : List (Option Bool)} {G J : Gh} {w K : World} (h : CS G0 w0 old G w) (I : c8 G J) (H : Ev G w K) : CS G0 w0 old J K where
 ev :=
  ⟨ya2 h.ev.size H.size, H.out.trans h.ev.out, H.os.trans h.ev.os, fun B M hm => (H.away B (yh1 M h.ev.size) (by rw [h.mine]; exact hm)).trans (h.ev.away B M hm),
   fun B o x => H.some B o (h.ev.some B o x), fun β B o x => (H.prot β B o (h.prot _ _ _ x)).trans (h.ev.prot β B o x), fun B o x => (H.fz B o (h.ev.some B o x)).trans (h.ev.fz B o x), H.tape.trans h.ev.tape⟩
 mine := I.mine.trans h.mine
 prot β B o x := I.prot _ _ _ (h.prot _ _ _ x)
 new β B o x := (I.new _ _ _ x).elim (h.new _ _ _) (fun y => .inr (by rw [← h.mine]; exact y))
 keep j k hj L hL := I.loc _ _ _ (h.keep j k hj L hL)
theorem ME {tmps : List AV} {t : Nat} {v : AV} (h : CM tmps t = some v) : tmps[t]? = some v ∧ eL v = false := by
 unfold CM at h
 rw [aX] at h
 rw [bind_some] at h; obtain ⟨u, I, h⟩ := h
 cases H : eL u with
 | true => rw [H] at h; simp at h
 | false => rw [H] at h; simp only [yk] at h; obtain rfl := ya h; exact ⟨I, H⟩
section
variable {P : Program}
theorem SR.get {G : Gh} {w : World} {st : St} {a : Act} (h : SR G w st a) {t : Nat} {v : AV} (ht : CM st.tmps t = some v) : VR G w v (a.tmps.getD t undef) := by
 obtain ⟨I, J⟩ := ME ht
 rcases h.tmps t v I with H | H
 ·rw [J] at H; cases H
 ·exact H
theorem KY {G : Gh} {w : World} {mem : aH} (hM : aF G w mem) {g : Nat} {q : Int × Int} (h : b4.tab g = some q) : VR G w (.el true (.agg [.lit (.int .i64 q.1), .lit (.int .i64 q.2)]) 0) (.pointer (some ⟨g, 0, none⟩)) := by
 obtain ⟨⟨J, K⟩, I, M⟩ := hM.glob g q h
 refine .el true _ 0 g 0 (fun j => if j = 0 then .int .i64 q.1 else .int .i64 q.2) (fun j y H => ?_) (fun j y H => ?_)
 ·match j, H with
  | 0, H => exact ⟨J, K⟩
  | 1, H => exact ⟨I, M⟩
 ·match j, H with
  | 0, H => obtain rfl := ya H; exact .lit _ rfl
  | 1, H => obtain rfl := ya H; exact .lit _ rfl
theorem SR.eval {G : Gh} {w : World} {st : St} {a : Act} (h : SR G w st a) : Ny G w (bY st.tmps) a := by
 intro x v H
 cases x with
 | tmp t => exact h.get H
 | const c => exact k8 H
 | func f =>
  obtain rfl := ya H
  exact .fn (.func f) [] [] #[] #[] rfl rfl (fun j y I => by simp at I) (fun j y I => by simp at I)
 | global g =>
  simp only [bY] at H
  obtain ⟨q, J, rfl⟩ := yc.1 H
  exact KY h.memr J
theorem Jp (a : Act) (dst : Option Tmp) (v : Value) : (a.put dst v).defers = a.defers ∧ (a.put dst v).tmps.size = a.tmps.size := by
 cases dst <;> simp [Act.put]
theorem SR.put {G K : Gh} {w J : World} {st : St} {a : Act} {dst : Option Tmp} {v : AV} {cv : Value} {mem' : aH} (h : SR G w st a) (N : c8 G K) (O : Ev G w J) (U : VR K J v cv) (hM : aF K J mem') :
  SR K J { tmps := lS st.tmps dst v, mem := mem' } (a.put dst cv) := by
 refine ⟨hM, ?_, fun j x H => ?_, by rw [(Jp a dst cv).1]; exact h.defers⟩
 ·rw [(Jp a dst cv).2, ← h.len]
  cases dst <;> simp [lS, d8]
 ·cases dst with
  | none => exact (h.tmps j x H).imp id (fun h => h.mono N O)
  | some d =>
   simp only [lS, d8] at H
   simp only [Act.put]
   by_cases M : j = d
   ·subst M
    have I : j < st.tmps.length := by have := (yd.1 H).1; simpa using this
    rw [yw I] at H
    obtain rfl := ya H
    right
    rw [yj, Array.getElem?_setIfInBounds_self_of_lt (by rw [← h.len]; exact I)]
    exact U
   ·rw [yp (fun e => M e.symm)] at H
    refine (h.tmps j x H).imp id (fun h => ?_)
    rw [yj, Array.getElem?_setIfInBounds_ne (fun e => M e.symm), ← yj]
    exact h.mono N O
theorem aF.congr {G : Gh} {w : World} {mem mem' : aH} (hM : aF G w mem) (h : ∀ (b : Nat) (x : a9), mem'[b]? = some (some x) ↔ mem[b]? = some (some x)) : aF G w mem' :=
 ⟨fun b x I => hM.box b x ((h b x).1 I), fun b g I => hM.unset b g (fun x H => I x ((h b x).2 H)), fun b x g I => hM.gens b x g ((h b x).1 I),
  fun b J x x' L N B I H => hM.apart b J x x' L N B ((h b x).1 I) ((h J x').1 H), fun b J x x' B i c B' I k K H => hM.inA b J x x' B i c B' ((h b x).1 I) k K ((h J x').1 H),
  fun b J x x' B C i c M O B' I k K H => hM.inB b J x x' B C i c M O B' ((h b x).1 I) k K ((h J x').1 H), hM.own, hM.lab, hM.away, hM.glob⟩
theorem JO : ∀ {m : aH} {b : Nat} {x : a9}, (trim m)[b]? = some (some x) ↔ m[b]? = some (some x)
 | [], b, x => by simp [trim]
 | y :: m, b, x => by
  have I := fun b => JO (m := m) (b := b) (x := x)
  simp only [trim]
  split
  ·rename_i hn
   rw [hn] at I
   have H : ∀ b : Nat, m[b]? ≠ some (some x) := fun b J => by have := (I b).2 J; simp at this
   cases y with
   | none =>
    simp only [LM, yl]
    cases b with
    | zero => simp
    | succ b => simp [H b]
   | some y =>
    simp only [LM, yk]
    cases b with
    | zero => simp
    | succ b => simp [H b]
  ·rename_i z hz
   cases b with
   | zero => simp
   | succ b => simp only [yd1]; exact I b
theorem M3 {mem : aH} {rs : Nat} : w4 mem rs = true ↔ mem[rs]? = some none := by
 unfold w4
 split
 ·rename_i h; simp [h]
 ·rename_i h; constructor
  ·intro H; cases H
  ·intro H; exact absurd H h
inductive vA (P : Program) (C : bQ) (an : lC) (tk : Bool) (rid : Nat) (ops : Array Oper) (o : Oper) (i rs : Nat) (st : St) : St → Option Tr → Prop
 | run (out : dE) (st1 : St) (hst : st1.mem = st.mem ∧ ∀ t : Nat, st1.tmps[t]? = st.tmps[t]?) (hres : d4 o.op = true → w4 st.mem rs = true) (h : FZ P C (a7 rid i an.own) tk (a7 rid i an.boxed) (a7 rid i an.raw) (a7 rid i an.vars) o (bY st1.tmps) st1.mem rs = some out)
   (hg : ∀ j want, o.guard = some (j, want) → ∃ d, (ops[j]?).bind (·.dst) = some d ∧ st.tmps[d]? = some (.lit (.bool want))) :
   vA P C an tk rid ops o i rs st { tmps := lS st1.tmps o.dst out.v, mem := out.apply st1.mem } (some (out.tr (d4 o.op) rs i o.op st1.mem))
 | skip (st1 : St) (hst : st1.mem = st.mem ∧ ∀ t : Nat, st1.tmps[t]? = st.tmps[t]?) (j : Nat) (want : Bool) (d : Nat) (hg : o.guard = some (j, want)) (hd : (ops[j]?).bind (·.dst) = some d)
   (h : st.tmps[d]? = some (.lit (.bool (!want))) ∨ ∃ x, st.tmps[d]? = some (.lit (.tuple x))) : vA P C an tk rid ops o i rs st { tmps := lS st1.tmps o.dst (.lit undef), mem := st1.mem } none
theorem N0 {tmps : List AV} {d : Nat} {v : AV} (h : tmps[d]? = some v) : ∀ t : Nat, (tmps.set d v)[t]? = tmps[t]? := by
 intro t
 by_cases e : t = d
 ·subst e; rw [yw (yd.1 h).1, h]
 ·rw [yp (fun x => e x.symm)]
variable {R : Type}
theorem IQ {h : Option Int} {v : AV} {k : AV → Option R} {r : R} (H : zK h v k = some r) : k v = some r := by
 unfold zK at H
 split at H
 ·exact H
 ·split at H
  ·rw [aA] at H
   rw [decide_eq_true_eq] at H
   rw [H.1]; exact H.2
  ·rename_i x _ b
   cases I : decide (x = 0) with
   | true =>
    rw [I] at H; simp only [yl] at H
    rw [aA] at H
    cases b with
    | false => exact H.2
    | true => simp at H
   | false =>
    rw [I] at H; simp only [yk] at H
    rw [aA] at H
    cases b with
    | true => exact H.2
    | false => simp at H
  ·exact H
theorem GT {C : bQ} {an : lC} {tk : Bool} {rid : Nat} {ops : Array Oper} {o : Oper} {rest : List Oper} {i rs : Nat} {st : St} {tr : List Tr} {k : St → List Tr → Option R} {r : R}
  (h : rQ P C an tk rid (ops.toList.map (·.dst)) (o :: rest) i rs st tr k = some r) :
  ∃ J t, vA P C an tk rid ops o i rs st J t ∧ rQ P C an tk rid (ops.toList.map (·.dst)) rest (i + 1) (bif d4 o.op then rs + 1 else rs) J (t.toList ++ tr) k = some r := by
 simp only [rQ, aX, d8] at h
 have hds : ∀ {j : Nat} {d : Nat}, (ops.toList.map (·.dst))[j]? = some (some d) → (ops[j]?).bind (·.dst) = some d := by
  intro j d hj
  rw [yb1] at hj
  obtain ⟨x, hx, hd⟩ := yc.1 hj
  rw [yp1] at hx
  rw [hx]; exact hd
 have U : ∀ (I : St), (I.mem = st.mem ∧ ∀ t : Nat, I.tmps[t]? = st.tmps[t]?) → (∀ j H, o.guard = some (j, H) → ∃ d, (ops[j]?).bind (·.dst) = some d ∧ st.tmps[d]? = some (.lit (.bool H))) →
   guardB (bif d4 o.op then w4 I.mem rs else true) ((FZ P C (a7 rid i an.own) tk (a7 rid i an.boxed) (a7 rid i an.raw) (a7 rid i an.vars) o (bY I.tmps) I.mem rs).bind fun out =>
    zK (Bu rid i an.hint) out.v fun v => rQ P C an tk rid (ops.toList.map (·.dst)) rest (i + 1) (bif d4 o.op then rs + 1 else rs) { tmps := lS I.tmps o.dst v, mem := out.apply I.mem } (out.tr (d4 o.op) rs i o.op I.mem :: tr) k) = some r →
   ∃ J t, vA P C an tk rid ops o i rs st J t ∧ rQ P C an tk rid (ops.toList.map (·.dst)) rest (i + 1) (bif d4 o.op then rs + 1 else rs) J (t.toList ++ tr) k = some r := by
  intro I V O h
  rw [aA] at h; obtain ⟨hr, h⟩ := h
  rw [bind_some] at h; obtain ⟨out, hout, h⟩ := h
  have h := IQ h
  refine ⟨_, _, .run out I V (fun hm => ?_) hout O, by simpa using h⟩
  rw [hm] at hr; rw [← V.1]; exact hr
 have K : ∀ (I : St), (I.mem = st.mem ∧ ∀ t : Nat, I.tmps[t]? = st.tmps[t]?) → ∀ (j : Nat) (H : Bool) (d : Nat), o.guard = some (j, H) → (ops[j]?).bind (·.dst) = some d → (st.tmps[d]? = some (.lit (.bool (!H))) ∨ ∃ x, st.tmps[d]? = some (.lit (.tuple x))) →
   rQ P C an tk rid (ops.toList.map (·.dst)) rest (i + 1) (bif d4 o.op then rs + 1 else rs) { tmps := lS I.tmps o.dst (.lit undef), mem := I.mem } tr k = some r →
   ∃ J t, vA P C an tk rid ops o i rs st J t ∧ rQ P C an tk rid (ops.toList.map (·.dst)) rest (i + 1) (bif d4 o.op then rs + 1 else rs) J (t.toList ++ tr) k = some r := by
  intro I V j H d O hd hh h
  exact ⟨_, _, .skip I V j H d O hd hh, by simpa using h⟩
 have M : ∀ {d : Nat} {v : AV}, st.tmps[d]? = some v → (({ st with tmps := st.tmps.set d v } : St).mem = st.mem ∧ ∀ t : Nat, ({ st with tmps := st.tmps.set d v } : St).tmps[t]? = st.tmps[t]?) := fun h => ⟨rfl, N0 h⟩
 split at h
 ·rename_i O
  exact U st ⟨rfl, fun _ => rfl⟩ (fun j H h => by rw [O] at h; cases h) h
 ·rename_i j H O
  split at h
  ·rename_i d hd
   have N := hds hd
   split at h
   ·rename_i b W
    cases b with
    | true =>
     simp only [yl] at h
     cases H with
     | true => simp only [yl, yk] at h; exact U _ (M W) (fun j' Y Z => by rw [O] at Z; obtain ⟨rfl, rfl⟩ := Prod.mk.inj (ya Z); exact ⟨d, N, W⟩) h
     | false => simp only [yl, yk] at h; exact K _ (M W) j false d O N (.inl W) h
    | false =>
     simp only [yk] at h
     cases H with
     | true => simp only [yl, yk] at h; exact K _ (M W) j true d O N (.inl W) h
     | false => simp only [yl, yk] at h; exact U _ (M W) (fun j' Y Z => by rw [O] at Z; obtain ⟨rfl, rfl⟩ := Prod.mk.inj (ya Z); exact ⟨d, N, W⟩) h
   ·rename_i x hx
    exact K st ⟨rfl, fun _ => rfl⟩ j H d O N (.inr ⟨x, hx⟩) h
   ·simp at h
  ·simp at h
theorem SR.same {G : Gh} {w : World} {st H : St} {a : Act} (h : SR G w st a) (I : H.mem = st.mem ∧ ∀ t : Nat, H.tmps[t]? = st.tmps[t]?) : SR G w H a := by
 refine ⟨by rw [I.1]; exact h.memr, ?_, fun j x K => h.tmps j x (by rw [← I.2]; exact K), h.defers⟩
 rw [← h.len]
 rcases Nat.lt_trichotomy H.tmps.length st.tmps.length with J | M | J
 ·have := I.2 H.tmps.length
  rw [ya1 (yy _), yf J] at this; cases this
 ·exact M
 ·have := I.2 st.tmps.length
  rw [ya1 (yy _), yf J] at this; cases this
theorem SR.lit {G : Gh} {w : World} {st : St} {a : Act} (h : SR G w st a) {d : Nat} {v : Value} (J : st.tmps[d]? = some (.lit v)) : a.tmps[d]? = some v := by
 have I : d < a.tmps.size := by rw [← h.len]; exact (yd.1 J).1
 rcases h.tmps d _ J with H | H
 ·simp [eL] at H
 ·have := H.lit_inv
  rw [yj, yl1 I] at this
  rw [yl1 I]; simpa using this
theorem vA.sound {C : bQ} (hC : jN P C) {an : lC} {tk : Bool} {rid : Nat} {ops : Array Oper} {o : Oper} {i rs : Nat} {st V : St} {t : Option Tr} {G : Gh} {w : World} {a : Act} (hi : ops[i]? = some o)
  (h : vA P C an tk rid ops o i rs st V t) (hS : SR G w st a) (K : Act → World → Prop) (Q : Exit → Act → World → Prop) (hK : ∀ Z O a', c8 G Z → Ev G w O → SR Z O V a' → K a' O) : wpOp P ops Q i K a w := by
 unfold wpOp
 simp only [hi]
 cases h with
 | run out st1 J U ho hg =>
  have H := hS.same J
  have hw : Region.wanted o (yielded ops a.tmps) = true := by
   unfold Region.wanted
   cases hgo : o.guard with
   | none => rfl
   | some q =>
    obtain ⟨j, I⟩ := q
    obtain ⟨d, Y, M⟩ := hg j I hgo
    have := hS.lit M
    simp [yielded, Y, this]
  rw [if_pos hw]
  left
  exact Mc H.memr (fun hm => by rw [J.1]; exact M3.1 (U hm)) H.eval (fun hc hf ha hcv => J7 hC H.memr hc hf ha hcv) ho K Q
   (fun Z O cv hv W N hM' => hK Z O _ W N (H.put W N hv hM'))
 | skip st1 J j I d hg Y h =>
  have H := hS.same J
  have hw : Region.wanted o (yielded ops a.tmps) = false := by
   unfold Region.wanted
   simp only [hg]
   rcases h with M | ⟨x, M⟩
   ·have := hS.lit M
    cases I <;> simp [yielded, Y, this]
   ·have := hS.lit M
    simp [yielded, Y, this]
  rw [hw]
  simp only [yi2, if_false]
  exact hK G w _ (c8.refl G) (Ev.refl G w) (H.put (c8.refl G) (Ev.refl G w) (.lit _ rfl) H.memr)
theorem E3 {C : bQ} (hC : jN P C) {an : lC} {tk : Bool} {rid : Nat} {ops : Array Oper} {k : St → List Tr → Option R} {r : R} {Q : Exit → Act → World → Prop} {G0 : Gh} {w0 : World} {old : List (Option Bool)} :
  ∀ {rest : List Oper} {i rs : Nat} {st : St} {tr : List Tr} {G : Gh} {w : World} {a : Act}, ops.toList.drop i = rest → rQ P C an tk rid (ops.toList.map (·.dst)) rest i rs st tr k = some r → SR G w st a → CS G0 w0 old G w →
   (∀ H N V I M, k H N = some r → SR V I H M → CS G0 w0 old V I → Q .normal M I) → wpOps P ops Q (List.range' i rest.length) a w
 | [], i, rs, st, tr, G, w, a, O, h, hS, hI, U => by
  simp only [rQ] at h
  exact U st tr G w a h hS hI
 | o :: rest, i, rs, st, tr, G, w, a, O, h, hS, hI, U => by
  obtain ⟨H, t, K, W⟩ := GT h
  have Y : ops[i]? = some o := by
   have : (ops.toList.drop i)[0]? = some o := by rw [O]; rfl
   rw [yz, ym1, yp1] at this; exact this
  rw [yg2, List.range'_succ, wpOps_cons]
  refine K.sound hC Y hS _ _ (fun V I M Z he J => ?_)
  exact E3 hC (by rw [← List.drop_drop, O]; rfl) W J (hI.step Z he) U
end
end Go.Ab
end
section
namespace Go.Ab
variable [b4]
theorem FW {p : Nat → Prop} (h : ∃ n, p n) : ∃ n, p n ∧ ∀ m, p m → n ≤ m := by
 obtain ⟨n, hn⟩ := h
 induction n using Nat.strongRecOn with
 | _ n J =>
  by_cases hm : ∃ m, m < n ∧ p m
  ·obtain ⟨m, H, hm⟩ := hm; exact J m H hm
  ·exact ⟨n, hn, fun m I => Nat.le_of_not_lt fun H => hm ⟨m, H, I⟩⟩
section
variable {P : Program}
theorem Hb {c : Code} {Q : Exit → Act → World → Prop} {a : Act} {w : World} (I : Nat → Act → World → Prop) {n : Nat} (V : I n a w)
  (J : ∀ n a w, I n a w → c.wp P (Exit.then (fun N M => ∃ m, m < n ∧ I m N M) Q) a w) : (Code.loop c).wp P Q a w := by
 refine wp_loop (fun a w => ∃ n, I n a w) (fun a w => Classical.epsilon fun n => I n a w ∧ ∀ m, I m a w → n ≤ m) ⟨n, V⟩ fun a w hI => ?_
 have K := Classical.epsilon_spec (FW hI)
 refine wp_mono (J _ a w K.1) fun e N M U => ?_
 cases e <;> try exact U
 obtain ⟨m, O, hm⟩ := U
 have H := Classical.epsilon_spec (FW (p := fun n => I n N M) ⟨m, hm⟩)
 exact ⟨⟨m, hm⟩, Nat.lt_of_le_of_lt (H.2 m hm) O⟩
def Ex.to : Ex → Exit
 | .normal => .normal
 | .exit id => .exit id
 | .ret => .ret
theorem vE : ∀ {live : List Nat} {vs : List AV} {i j : Nat}, (bH live vs i)[j]? = (vs[j]?).map fun v => bif eZ (i + j) live then v else .goneV
 | live, [], i, j => by simp [bH]
 | live, v :: r, i, 0 => by simp [bH]
 | live, v :: r, i, j + 1 => by simp only [bH, yd1]; rw [vE (vs := r), show i + 1 + j = i + (j + 1) by omega]
theorem Lg {G0 : Gh} {w0 : World} {keep : Bool} {old : List (Option Bool)} {live : List Nat} {st K : St} {G : Gh} {w : World} {a : Act} (h : Iy keep old live st = some K) (hS : SR G w st a) (hI : CS G0 w0 old G w) :
  ∃ N, SR N w K a ∧ CS G0 w0 old N w := by
 unfold Iy at h
 obtain ⟨q, hq, rfl⟩ := yc.1 h
 obtain ⟨f, N, G2, hr, hm, M, U, hM, J, I, hk, _, _⟩ := vC hS.memr hq
 refine ⟨G2, ⟨hM, ?_, fun j x Y => ?_, hS.defers⟩, ⟨hI.ev, hm.trans hI.mine, fun β B o h => by rw [M]; exact hI.prot β B o h, fun β B o h => hI.new β B o (by rw [M] at h; exact h), fun j k V L hL => by obtain ⟨y, _, _, h⟩ := hk j k V; exact h L (hI.keep j k V L hL)⟩⟩
 ·simp only [hr, eX, ye1]
  rw [← hS.len]
  have : ∀ (vs : List AV) i, (bH live vs i).length = vs.length := by
   intro vs; induction vs with
   | nil => intro i; rfl
   | cons v r ih => intro i; simp [bH, ih]
  exact this _ _
 ·simp only [hr] at Y
  obtain ⟨y, W, rfl⟩ := pW Y
  have H := I j y
  rw [vE] at W H
  obtain ⟨z, Z, rfl⟩ := yc.1 W
  rw [Z] at H
  cases O : eZ (0 + j) live with
  | false => left; rfl
  | true =>
   simp only [yl]
   rcases hS.tmps j z Z with h | h
   ·left
    unfold eL at h
    split at h
    ·rfl
    ·cases h
   ·right
    rw [O] at H
    exact (H _ rfl h).ren (l := true) J (fun β B o _ hb => by rw [M, ← U]; exact hb) (fun _ => rfl)
theorem Hz {G : Gh} {w : World} {mem mem' : aH} {s : AV} {n c : Nat} (hM : aF G w mem) (h : BE mem s n c = some mem') : ∃ J, c8 G J ∧ aF J w mem' := by
 unfold BE at h
 split at h
 ·rename_i b g
  rw [bind_some] at h; obtain ⟨M, H, h⟩ := h
  split at h
  ·rename_i e xs hs I
   obtain ⟨r, hr, rfl⟩ := yc.1 h
   have K : mem[b]? = some (some M) := by
    unfold boxO? at H
    split at H
    ·rename_i x K
     cases N : Nat.beq x.gen g && x.row.isOwn with
     | true => rw [N] at H; obtain rfl := ya H; exact K
     | false => rw [N] at H; cases H
    ·cases H
   have O : 0 < M.row.len := by
    rw [I]
    unfold nR at hr
    rw [bind_some] at hr; obtain ⟨p, V, _⟩ := hr
    have := (yd.1 V).1
    show 0 < xs.length
    omega
   obtain ⟨o, U, hm⟩ := (hM.box b M K).loc
   cases o with
   | none => have := hm.1; omega
   | some B =>
    obtain ⟨J, v, _, _, ht, _⟩ := sD hM K I ⟨_, U, rfl⟩ hr
    exact ⟨J, ht.gle, ht.memr⟩
  ·cases h
 ·cases h
theorem Ac {w : World} {tmps : List AV} : ∀ {l : List (Operand × Nat × Operand × Nat)} {G : Gh} {mem mem' : aH}, aF G w mem → BH tmps l mem = some mem' → ∃ O, c8 G O ∧ aF O w mem'
 | [], G, mem, mem', hM, h => by obtain rfl := ya h; exact ⟨G, c8.refl G, hM⟩
 | q :: l, G, mem, mem', hM, h => by
  simp only [BH] at h
  rw [bind_some] at h; obtain ⟨I, H, h⟩ := h
  have : ∃ s n c, BE mem s n c = some I := by
   unfold LB at H
   rw [bind_some] at H; obtain ⟨p, _, H⟩ := H
   rw [bind_some] at H; obtain ⟨s, _, H⟩ := H
   rw [bind_some] at H; obtain ⟨v, _, H⟩ := H
   split at H
   ·rw [aA] at H; exact ⟨_, _, _, H.2⟩
   ·cases H
  obtain ⟨s, n, c, ht⟩ := this
  obtain ⟨G1, N, M⟩ := Hz hM ht
  obtain ⟨U, K, J⟩ := Ac M h
  exact ⟨U, N.trans K, J⟩
theorem Kr {G0 : Gh} {w0 : World} {old : List (Option Bool)} {an : lC} {rid : Nat} {st M : St} {G : Gh} {w : World} {a : Act} (h : Gb an rid old st = some M) (hS : SR G w st a) (hI : CS G0 w0 old G w) :
  ∃ I, SR I w M a ∧ CS G0 w0 old I w := by
 unfold Gb at h
 split at h
 ·obtain rfl := ya h; exact ⟨G, hS, hI⟩
 ·rename_i q hq
  rw [bind_some] at h; obtain ⟨W, K, h⟩ := h
  obtain ⟨Z, U, rfl⟩ := yc.1 h
  obtain ⟨I, hG⟩ := CF hS.memr K
  obtain ⟨G2, J, N⟩ := Ac hG.memr U
  have O : CS G0 w0 old I w := ⟨hI.ev, hG.mine.trans hI.mine, fun β B o h => by rw [hG.prot]; exact hI.prot β B o h, fun β B o h => hI.new β B o (by rw [hG.prot] at h; exact h), fun j k Y L hL => by
   rw [hG.loc j 0 (yd.1 Y).1]; exact hI.keep j k Y L hL⟩
  refine ⟨G2, ⟨N, ?_, fun j x hx => ?_, hS.defers⟩, O.step J (Ev.refl I w)⟩
  ·have : ∀ (vs : List AV) i, (bH q.1 vs i).length = vs.length := by
    intro vs; induction vs with
    | nil => intro i; rfl
    | cons v r ih => intro i; simp [bH, ih]
   rw [← hS.len]; exact this _ _
  ·have H := hG.vals j x
   rw [vE] at hx H
   obtain ⟨z, hz, rfl⟩ := yc.1 hx
   rw [hz] at H
   cases V : eZ (0 + j) q.1 with
   | false => left; rfl
   | true =>
    simp only [yl]
    rcases hS.tmps j z hz with h | h
    ·exact .inl h
    ·rw [V] at H
     exact .inr ((H _ rfl h).mono J (Ev.refl I w))
variable {R : Type}
def C4 (P : Program) (C : bQ) (an : lC) : Prop := ∀ (R : Type) (rid : Nat) (ops : Array Oper) (st : St) (k : St → Option R) (r : R) (G0 : Gh) (w0 : World) (old : List (Option Bool)) (G : Gh) (w : World) (a : Act) (Q : Exit → Act → World → Prop),
 nE P C an rid ops true st k = some r → SR G w st a → CS G0 w0 old G w → (∀ st' G' w' a', k st' = some r → SR G' w' st' a' → CS G0 w0 old G' w' → Q .normal a' w') → (Code.region rid ops true).wp P Q a w
theorem CT {m : aH} {n b : Nat} {x : a9} : (m ++ List.replicate n none)[b]? = some (some x) ↔ m[b]? = some (some x) := by
 by_cases H : b < m.length
 ·rw [yn H]
 ·rw [yu (by omega), yw1]
  constructor
  ·intro h; split at h <;> simp at h
  ·intro h; rw [ya1 (by omega)] at h; cases h
theorem SR.widen {G : Gh} {w : World} {st : St} {a : Act} (h : SR G w st a) (n : Nat) : SR G w { st with mem := st.mem ++ List.replicate n none } a :=
 ⟨h.memr.congr fun b x => CT, h.len, h.tmps, h.defers⟩
theorem SR.trim {G : Gh} {w : World} {st : St} {a : Act} (h : SR G w st a) : SR G w { st with mem := trim st.mem } a :=
 ⟨h.memr.congr fun b x => JO, h.len, h.tmps, h.defers⟩
theorem Ho {C : bQ} (hC : jN P C) {an : lC} (hD : C4 P C an) {rid : Nat} {ops : Array Oper} {H : Bool} {st : St} {k : St → Option R} {r : R} {G0 : Gh} {w0 : World} {old : List (Option Bool)} {G : Gh} {w : World} {a : Act}
  {Q : Exit → Act → World → Prop} (h : nE P C an rid ops H st k = some r) (hS : SR G w st a) (hI : CS G0 w0 old G w) (V : ∀ I N J M, k I = some r → SR N J I M → CS G0 w0 old N J → Q .normal M J) :
  (Code.region rid ops H).wp P Q a w := by
 cases H with
 | true => exact hD R rid ops st k r G0 w0 old G w a Q h hS hI V
 | false =>
  unfold nE at h
  apply wp_region
  have := E3 (Q := Q) (G0 := G0) (w0 := w0) (old := old) hC (ops := ops) (rest := ops.toList) (i := 0) (by simp) h (hS.widen _) hI (fun I W N J M K O U => by
   rw [aA] at K
   exact V _ N J M K.2 O.trim U)
  rw [List.range_eq_range']
  simpa using this
theorem IX {α : Type} {a b : Option α} {r : α} (h : amb a b = some r) : a = some r ∧ b = some r := by
 unfold amb at h
 split at h
 ·rename_i e; exact ⟨h, e ▸ h⟩
 ·cases h
theorem VR.unk_inv {G : Gh} {w : World} {v : Value} (h : VR G w (.imm true (.lit (.bool false))) v) : ∃ b, v = .bool b := by
 cases h with
 | imm _ _ _ _ hs => cases hs
 | unkB b => exact ⟨b, rfl⟩
theorem nM {C : bQ} (hC : jN P C) {an : lC} (hD : C4 P C an) {n : Nat} {old : List (Option Bool)} {G0 : Gh} {w0 : World} : ∀ (c : Code) {M : Nat} {st : St} {k : Ex → St → Option R} {r : R} {G : Gh} {w : World} {a : Act} {Q : Exit → Act → World → Prop},
  eF P C an n old c M st k = some r → SR G w st a → CS G0 w0 old G w → (∀ e H U O V, k e H = some r → SR U O H V → CS G0 w0 old U O → Q e.to V O) → c.wp P Q a w := by
 intro c
 induction c with
 | skip => intro M st k r G w a Q h hS hI K; exact wp_skip (K .normal st G w a h hS hI)
 | ret => intro M st k r G w a Q h hS hI K; exact wp_ret (K .ret st G w a h hS hI)
 | exit id => intro M st k r G w a Q h hS hI K; exact wp_exit (K (.exit id) st G w a h hS hI)
 | seq x y Y W =>
  intro M st k r G w a Q h hS hI K
  simp only [eF] at h
  refine wp_seq (Y h hS hI fun e H U O V N I J => ?_)
  cases e with
  | normal => exact W N I J K
  | exit id => exact K (.exit id) H U O V N I J
  | ret => exact K .ret H U O V N I J
 | cond c x y Y W =>
  intro M st k r G w a Q h hS hI K
  simp only [eF] at h
  split at h
  ·rename_i t ht
   have hc := (hS.eval c _ ht).lit_inv
   cases t with
   | true => exact wp_cond_true hc (Y h hS hI K)
   | false => exact wp_cond_false hc (W h hS hI K)
  ·rename_i ht
   obtain ⟨b, hc⟩ := (hS.eval c _ ht).unk_inv
   obtain ⟨h1, h2⟩ := IX h
   cases b with
   | true => exact wp_cond_true hc (Y h1 hS hI K)
   | false => exact wp_cond_false hc (W h2 hS hI K)
  ·simp at h
 | block id c ih =>
  intro M st k r G w a Q h hS hI K
  simp only [eF] at h
  refine wp_block (ih h hS hI fun e H U O V N I J => ?_)
  cases e with
  | normal => exact K .normal H U O V N I J
  | ret => exact K .ret H U O V N I J
  | exit j =>
   simp only at N
   cases hj : Nat.beq j id with
   | true =>
    rw [hj] at N; simp only [yl] at N
    obtain rfl := bJ.1 hj
    simp only [Ex.to, Exit.inBlock, if_true]
    exact K .normal H U O V N I J
   | false =>
    rw [hj] at N; simp only [yk] at N
    have hne : ¬ j = id := fun h => by rw [bJ.2 h] at hj; cases hj
    simp only [Ex.to, Exit.inBlock, hne, if_false]
    exact K (.exit j) H U O V N I J
 | loop c ih =>
  intro M st k r G w a Q h hS hI K
  simp only [eF] at h
  rw [bind_some] at h; obtain ⟨live, hl, h⟩ := h
  refine Hb (fun m a w => ∃ st G, yM (eZ M an.keep) old live (fun st k => eF P C an n old c M st k) m st k = some r ∧ SR G w st a ∧ CS G0 w0 old G w) ⟨st, G, h, hS, hI⟩ ?_
  rintro m a w ⟨st, G, h, hS, hI⟩
  cases m with
  | zero => simp [yM] at h
  | succ m =>
   simp only [yM] at h
   rw [bind_some] at h; obtain ⟨st1, h1, h⟩ := h
   obtain ⟨G1, Z, hI1⟩ := Lg h1 hS hI
   refine ih h Z hI1 fun e H U O V N I J => ?_
   cases e with
   | normal => exact ⟨m, yx2 _, H, U, N, I, J⟩
   | exit id => exact K (.exit id) H U O V N I J
   | ret => exact K .ret H U O V N I J
 | region rid ops draw =>
  intro M st k r G w a Q h hS hI K
  simp only [eF] at h
  rw [bind_some] at h; obtain ⟨st1, h1, h⟩ := h
  obtain ⟨G1, Z, hI1⟩ := Kr h1 hS hI
  exact Ho hC hD h Z hI1 (fun H U O V N I J => K .normal H U O V N I J)
 | _ => intro M st k r G w a Q h hS hI K; simp [eF] at h
def Nl (tmps : Array Value) : ResultVar → Sem Value
 | .tmp t => pure (tmps.getD t undef)
 | .cell c t => do loadVar t (← asAddr (tmps.getD c undef))
theorem Kk (fn : Func) (tmps : Array Value) : results fn tmps = (do let vs ← fn.results.mapM (Nl tmps); pure (if h : vs.size = 1 then vs[0] else .tuple vs)) := by
 unfold results
 congr 1
theorem yV {G : Gh} {w : World} {st : St} {a : Act} (hS : SR G w st a) : ∀ {rs : List ResultVar} {vs : List AV}, CN P st.tmps st.mem rs = some vs →
  ∃ us : List Value, gW G w vs us ∧ (rs.mapM (Nl a.tmps)).run P w = .ok us w
 | [], vs, h => by
  simp [CN] at h; subst h
  exact ⟨[], ⟨rfl, fun j y J => by simp at J⟩, by simp⟩
 | .tmp t :: rs, vs, h => by
  simp only [CN] at h
  rw [bind_some] at h; obtain ⟨v, W, h⟩ := h
  obtain ⟨N, O, rfl⟩ := yc.1 h
  obtain ⟨us, hL, I⟩ := yV hS O
  refine ⟨a.tmps.getD t undef :: us, ⟨by simp [hL.1], fun j y J => ?_⟩, ?_⟩
  ·cases j with
   | zero => simp at J; subst J; exact hS.get W
   | succ j => simpa using hL.2 j y (by simpa using J)
  ·rw [List.mapM_cons]
   simp only [Nl, Sem.run_bind, Sem.run_pure, Result.andThen_ok, I]
 | .cell c t :: rs, vs, h => by
  simp only [CN] at h
  rw [bind_some] at h; obtain ⟨x, Y, h⟩ := h
  rw [bind_some] at h; obtain ⟨o, M, h⟩ := h
  obtain ⟨N, O, rfl⟩ := yc.1 h
  obtain ⟨us, hL, I⟩ := yV hS O
  have H := hS.get Y
  obtain ⟨v, rd, rfl, cv, K, V⟩ := CB hS.memr M H
  refine ⟨cv :: us, ⟨by simp [hL.1], fun j y J => ?_⟩, ?_⟩
  ·cases j with
   | zero => simp at J; subst J; exact V
   | succ j => simpa using hL.2 j y (by simpa using J)
  ·rw [List.mapM_cons]
   have : (Nl a.tmps (.cell c t)).run P w = .ok cv w := by
    have U : ∃ p, a.tmps.getD c undef = .pointer (some p) := by
     unfold i7 at M
     split at M
     ·generalize a.tmps.getD c undef = z at H; cases H; exact ⟨_, rfl⟩
     ·generalize a.tmps.getD c undef = z at H; cases H; exact ⟨_, rfl⟩
     ·simp at M
    obtain ⟨p, U⟩ := U
    show Sem.run P (do loadVar t (← asAddr (a.tmps.getD c undef))) w = _
    rw [U] at K ⊢
    simpa [Instr.loadAt, Instr.sureAddr, asAddr] using K
   simp only [Sem.run_bind, this, Result.andThen_ok, I, Sem.run_pure]
def nT (P : Program) : Bool := P.funcs.all fun fn => !(fn.name == "runtime.NumGoroutine")
theorem q5 {f : FuncId} {fn : Func} {H : Array Value} {w : World} (I : P.funcs[f]? = some fn) (hn : nT P = true) (hb : fn.body.isSome = true) : (callFunc f H).run P w = .ok (.enter f H) w := by
 have J : (fn.name == "runtime.NumGoroutine") = false := by
  unfold nT at hn
  rw [Array.all_eq_true_iff_forall_mem] at hn
  have := hn fn (Array.mem_of_getElem? I)
  simpa using this
 have K : fn.body.isNone = false := by cases h : fn.body <;> simp_all
 unfold callFunc
 simp only [Sem.run_bind, run_program, Result.andThen_ok, I, J, K, yi2, if_false, Sem.run_pure]
end
end Go.Ab
end
section
namespace Go.Ab
variable [b4]
def Ag (S : List Nat) (mem mem' : aH) : Prop := ∀ b ∈ S, mem'[b]? = mem[b]?
theorem Ag.sub {S S' : List Nat} {mem mem' : aH} (h : Ag S mem mem') (hs : ∀ b ∈ S', b ∈ S) : Ag S' mem mem' := fun b H => h b (hs b H)
theorem box?_ag {mem mem' : aH} {b g : Nat} (h : mem'[b]? = mem[b]?) : box? mem' b g = box? mem b g := by unfold box?; rw [h]
theorem Fm {mem mem' : aH} {b : Nat} (h : mem'[b]? = mem[b]?) : m8 mem' b = m8 mem b := by unfold m8; rw [h]
theorem y6 {α β : Type} {f J : α → Option (Bool × β × List Nat)} : ∀ {xs : List α} {r : Bool × List β × List Nat}, fY f xs = some r → (∀ x q, f x = some q → (∀ b ∈ q.2.2, b ∈ r.2.2) → J x = some q) → fY J xs = some r
 | [], r, h, _ => h
 | v :: xs, r, h, I => by
  simp only [fY] at h ⊢
  rw [bind_some] at h; obtain ⟨a, K, h⟩ := h
  rw [bind_some] at h; obtain ⟨q, U, h⟩ := h
  obtain rfl := ya h
  rw [I v a K (fun b H => yq1 _ H), y6 U (fun x O M N => I x O M (fun b H => ys1 _ (N b H)))]
  rfl
theorem Br {α β γ : Type} {f J : γ → α → Option (Bool × β × List Nat)} : ∀ {ls : List γ} {xs : List α} {r : Bool × List β × List Nat}, b3 f ls xs = some r → (∀ l x q, f l x = some q → (∀ b ∈ q.2.2, b ∈ r.2.2) → J l x = some q) → b3 J ls xs = some r
 | [], [], r, h, _ => h
 | [], v :: xs, r, h, H => by simp [b3] at h
 | l :: ls, [], r, h, H => by simp [b3] at h
 | l :: ls, v :: xs, r, h, H => by
  simp only [b3] at h ⊢
  rw [bind_some] at h; obtain ⟨a, U, h⟩ := h
  rw [bind_some] at h; obtain ⟨q, O, h⟩ := h
  obtain rfl := ya h
  rw [H l v a U (fun b I => yq1 _ I), Br O (fun l x N K M => H l x N K (fun b I => ys1 _ (M b I)))]
  rfl
section
variable {P : Program}
theorem lZ {k : IntKind} {b : Nat} {w : aI} {r : Bool × PV × List Nat} (h : a5.treeInts k b w = some r) : b ∈ r.2.2 := by
 unfold a5.treeInts at h
 split at h
 ·rw [aA] at h; obtain ⟨_, h⟩ := h; obtain rfl := ya h; simp
 ·rw [aA] at h; obtain ⟨_, h⟩ := h; obtain ⟨xs, _, rfl⟩ := yc.1 h; simp
 ·simp at h
theorem pI {f : LK → AV → Option (Bool × PV × List Nat)} {t : TypeId} {e b : Nat} {w : aI} {r : Bool × PV × List Nat} (h : a5.treeSl P f t e b w = some r) : b ∈ r.2.2 := by
 unfold a5.treeSl at h
 split at h
 ·rw [aA] at h; obtain ⟨_, h⟩ := h; obtain rfl := ya h; simp
 ·rw [aA] at h; obtain ⟨_, h⟩ := h
  rw [bind_some] at h; obtain ⟨_, _, h⟩ := h
  obtain ⟨xs, _, rfl⟩ := yc.1 h; simp
 ·simp at h
theorem GY {f K : LK → AV → Option (Bool × PV × List Nat)} {t : TypeId} {e b : Nat} {w : aI} {r : Bool × PV × List Nat} (h : a5.treeSl P f t e b w = some r)
  (V : ∀ l v q, f l v = some q → (∀ b ∈ q.2.2, b ∈ r.2.2) → K l v = some q) : a5.treeSl P K t e b w = some r := by
 unfold a5.treeSl at h ⊢
 split at h
 ·exact h
 ·rw [aA] at h ⊢; obtain ⟨hg, h⟩ := h
  refine ⟨hg, ?_⟩
  rw [bind_some] at h ⊢; obtain ⟨ls, J, h⟩ := h
  refine ⟨ls, J, ?_⟩
  obtain ⟨q, Y, rfl⟩ := yc.1 h
  refine yc.2 ⟨q, y6 Y (fun vs q1 H N => ?_), rfl⟩
  rw [bind_some] at H ⊢; obtain ⟨Z, I, H⟩ := H
  obtain ⟨p, hp, rfl⟩ := yc.1 H
  refine ⟨Z, Br I (fun l x W U O => V l x W U (fun b M => yh _ (N b (O b M)))), H⟩
 ·simp at h
theorem Ha {mem mem' : aH} : ∀ {n : Nat} {l : LK} {v : AV} {r : Bool × PV × List Nat}, a5 P mem n l v = some r → Ag r.2.2 mem mem' → a5 P mem' n l v = some r
 | 0, l, v, r, h, _ => by simp [a5] at h
 | n + 1, l, v, r, h, hA => by
  unfold a5 at h ⊢
  split at h <;> try exact h
  ·rename_i k b g
   rw [bind_some] at h ⊢; obtain ⟨x, H, h⟩ := h
   exact ⟨x, by rw [box?_ag (hA b (lZ h))]; exact H, h⟩
  ·rename_i k b g o m
   rw [bind_some] at h ⊢; obtain ⟨x, H, h⟩ := h
   have K := h
   rw [bind_some] at h; obtain ⟨w, J, h⟩ := h
   exact ⟨x, by rw [box?_ag (hA b (lZ h))]; exact H, K⟩
  ·rename_i t e b g
   rw [bind_some] at h ⊢; obtain ⟨x, H, h⟩ := h
   exact ⟨x, by rw [box?_ag (hA b (pI h))]; exact H, GY h (fun l v q I hs => Ha I (hA.sub hs))⟩
  ·rename_i t e b g o m
   rw [bind_some] at h ⊢; obtain ⟨x, H, h⟩ := h
   rw [bind_some] at h; obtain ⟨w, J, h⟩ := h
   refine ⟨x, by rw [box?_ag (hA b (pI h))]; exact H, ?_⟩
   rw [bind_some]
   exact ⟨w, J, GY h (fun l v q I hs => Ha I (hA.sub hs))⟩
variable {mem mem' : aH}
theorem boxO?_ag {b g : Nat} (h : mem'[b]? = mem[b]?) : boxO? mem' b g = boxO? mem b g := by unfold boxO?; rw [h]
theorem Al {b : Nat} (h : mem'[b]? = mem[b]?) : vT mem' b = vT mem b := by unfold vT; rw [h]
theorem Nh {n b g : Nat} {l : LK} {r : Bool × PV × List Nat} (h : a5 P mem n l (.msw b g) = some r) : b ∈ r.2.2 := by
 cases n with
 | zero => simp [a5] at h
 | succ n =>
  unfold a5 at h
  cases l <;> simp only at h <;> first
   | (cases h; done)
   | (rw [bind_some] at h; obtain ⟨x, _, h⟩ := h; exact lZ h)
   | (rw [bind_some] at h; obtain ⟨x, _, h⟩ := h; exact pI h)
theorem OJ {n b g o m : Nat} {l : LK} {r : Bool × PV × List Nat} (h : a5 P mem n l (.ms b g o m) = some r) : b ∈ r.2.2 := by
 cases n with
 | zero => simp [a5] at h
 | succ n =>
  unfold a5 at h
  cases l <;> simp only at h <;> first
   | (cases h; done)
   | (rw [bind_some] at h; obtain ⟨x, _, h⟩ := h; rw [bind_some] at h; obtain ⟨_, _, h⟩ := h; exact lZ h)
   | (rw [bind_some] at h; obtain ⟨x, _, h⟩ := h; rw [bind_some] at h; obtain ⟨_, _, h⟩ := h; exact pI h)
theorem E8 {l : LK} {v : AV} {r : Bool × PV × List Nat} (h : i9 P mem l v = some r) (hA : Ag r.2.2 mem mem') : i9 P mem' l v = some r := by
 have I : ∀ b g, (v = .msw b g ∨ ∃ n, v = .ms b g 0 n) → b ∈ r.2.2 := by
  intro b g J
  unfold i9 at h
  split at h
  ·rename_i q K
   split at h
   ·rw [aA] at h; obtain ⟨_, h⟩ := h
    obtain rfl := ya h
    obtain ⟨g', x, xs, H, _⟩ := Eo K
    rcases J with rfl | ⟨n, rfl⟩ <;> rcases H with ⟨H, _⟩ | ⟨n', H, _⟩ <;> cases H <;> simp
   ·cases h
  ·rcases J with rfl | ⟨n, rfl⟩
   ·exact Nh h
   ·exact OJ h
 have hO : nK mem' v = nK mem v := by
  unfold nK
  split
  ·rename_i b g; simp only [boxO?_ag (hA b (I b g (.inl rfl)))]
  ·rename_i b g n; simp only [boxO?_ag (hA b (I b g (.inr ⟨n, rfl⟩)))]
  ·rfl
 unfold i9 at h ⊢
 rw [hO]
 split at h
 ·exact h
 ·exact Ha h hA
theorem C5 {t : TypeId} {v : AV} {r : Bool × PV × List Nat} (h : rP P mem t v = some r) (hA : Ag r.2.2 mem mem') : rP P mem' t v = some r := by
 unfold rP at h ⊢
 rw [bind_some] at h ⊢; obtain ⟨ls, H, h⟩ := h
 refine ⟨ls, H, ?_⟩
 rw [bind_some] at h ⊢; obtain ⟨q, M, h⟩ := h
 refine ⟨q, Br M (fun l x q' J K => E8 J (hA.sub fun b I => ?_)), h⟩
 obtain ⟨p, _, rfl⟩ := yc.1 h
 exact K b I
theorem M8 {vars : Bool} {t : TypeId} {vs : List AV} {r : aI × List Nat} (h : mR P vars mem t vs = some r) (hA : Ag r.2 mem mem') : mR P vars mem' t vs = some r := by
 unfold mR at h ⊢
 split at h
 ·exact h
 ·rw [bind_some] at h ⊢; obtain ⟨e, I, h⟩ := h
  refine ⟨e, I, ?_⟩
  cases vars with
  | true => exact h
  | false =>
   simp only [yk] at h ⊢
   obtain ⟨q, K, rfl⟩ := yc.1 h
   exact yc.2 ⟨q, y6 K (fun v q' H J => C5 H (hA.sub J)), rfl⟩
theorem s7 : ∀ {ids : List Nat}, Ag ids mem mem' → bZ mem' ids = bZ mem ids
 | [], _ => rfl
 | b :: r, h => by
  have I := s7 (ids := r) (h.sub fun b H => yh _ H)
  simp only [bZ, h b (ym ..), I]
theorem AJ {I : TypeId} {y : AV} {v : aI × List Nat} (h : view P I mem y = some v) (hA : Ag v.2 mem mem') : view P I mem' y = some v := by
 unfold view at h ⊢
 split at h <;> try exact h
 ·rename_i b g o n
  have h' := h
  rw [bind_some] at h ⊢; obtain ⟨x, H, h⟩ := h
  obtain ⟨w, hw, rfl⟩ := yc.1 h
  exact ⟨x, by rw [box?_ag (hA b (by simp))]; exact H, h⟩
 ·rename_i b g
  rw [bind_some] at h ⊢; obtain ⟨x, H, h⟩ := h
  obtain rfl := ya h
  exact ⟨x, by rw [box?_ag (hA b (by simp))]; exact H, rfl⟩
theorem NM {t : TypeId} {x : AV} {n : Nat × List Nat} (h : lenOf P t mem x = some n) (hA : Ag n.2 mem mem') : lenOf P t mem' x = some n := by
 unfold lenOf at h ⊢
 split at h
 ·exact h
 ·split at h <;> try exact h
  rename_i b g
  obtain ⟨x, H, rfl⟩ := yc.1 h
  exact yc.2 ⟨x, by rw [box?_ag (hA b (by simp))]; exact H, rfl⟩
 ·simp at h
variable {out : dE}
theorem Nn {t : TypeId} {a : AV} (h : i7 P t mem a = some out) (hA : Ag out.rd mem mem') : i7 P t mem' a = some out := by
 unfold i7 at h ⊢
 split at h
 ·exact h
 ·rename_i b g i c
  rw [bind_some] at h ⊢; obtain ⟨x, H, h⟩ := h
  refine ⟨x, ?_, h⟩
  have : b ∈ out.rd := by
   split at h
   ·rw [bind_some] at h; obtain ⟨ag, _, h⟩ := h
    cases ag with
    | true =>
     simp only [yl] at h
     rw [bind_some] at h; obtain ⟨n, _, h⟩ := h
     rw [aA] at h; obtain ⟨_, h⟩ := h
     obtain rfl := ya h; simp
    | false =>
     simp only [yk] at h
     obtain ⟨v, _, rfl⟩ := yc.1 h; simp
   ·rw [aA] at h; obtain ⟨_, h⟩ := h
    rw [aA] at h; obtain ⟨_, h⟩ := h
    obtain ⟨v, _, rfl⟩ := yc.1 h; simp
   ·rw [bind_some] at h; obtain ⟨y, _, h⟩ := h
    obtain ⟨v, _, rfl⟩ := yc.1 h; simp
   ·cases h
  rw [box?_ag (hA b this)]; exact H
 ·simp at h
theorem Mw {t : TypeId} {a x : AV} (h : iR P t mem a x = some out) (hA : Ag out.rd mem mem') : iR P t mem' a x = some out := by
 unfold iR at h ⊢
 split at h
 ·rename_i b g i c
  rw [bind_some] at h ⊢; obtain ⟨O, I, h⟩ := h
  refine ⟨O, ?_, ?_⟩
  ·have : b ∈ out.rd := by
    rw [bind_some] at h; obtain ⟨n, _, h⟩ := h
    rw [aA] at h; obtain ⟨_, h⟩ := h
    split at h
    ·rw [aA] at h; obtain ⟨_, h⟩ := h
     obtain rfl := ya h; simp
    ·split at h
     ·rw [aA] at h; obtain ⟨_, h⟩ := h
      obtain rfl := ya h; simp
     ·simp at h
    ·rw [bind_some] at h; obtain ⟨p, _, h⟩ := h
     rw [bind_some] at h; obtain ⟨q, _, h⟩ := h
     rw [aA] at h; obtain ⟨_, h⟩ := h
     obtain rfl := ya h; simp
    ·cases h
   rw [box?_ag (hA b this)]; exact I
  ·rw [bind_some] at h ⊢; obtain ⟨n, hn, h⟩ := h
   refine ⟨n, hn, ?_⟩
   rw [aA] at h ⊢; obtain ⟨U, h⟩ := h
   refine ⟨U, ?_⟩
   split at h
   ·exact h
   ·exact h
   ·rw [bind_some] at h ⊢; obtain ⟨p, M, h⟩ := h
    refine ⟨p, M, ?_⟩
    rw [bind_some] at h ⊢; obtain ⟨q, N, h⟩ := h
    have K := h
    rw [aA] at h; obtain ⟨_, h⟩ := h
    obtain rfl := ya h
    have H : Ag q.2.2 mem mem' := hA.sub fun b J => yh _ J
    exact ⟨q, C5 N H, by rw [s7 H]; exact K⟩
   ·exact h
 ·simp at h
theorem MO {t : TypeId} {x : AV} {i : Int} (h : gV P t mem x i = some out) (hA : Ag out.rd mem mem') : gV P t mem' x i = some out := by
 unfold gV at h ⊢
 split at h
 ·rw [bind_some] at h ⊢; obtain ⟨s, hs, h⟩ := h
  refine ⟨s, hs, ?_⟩
  split at h <;> try exact h
  ·rename_i b g o n
   rw [bind_some] at h ⊢; obtain ⟨I, H, h⟩ := h
   refine ⟨I, ?_, h⟩
   rw [aA] at h; obtain ⟨_, h⟩ := h
   obtain rfl := ya h
   rw [box?_ag (hA b (by simp))]; exact H
  ·rename_i b g
   rw [bind_some] at h ⊢; obtain ⟨I, H, h⟩ := h
   refine ⟨I, ?_, h⟩
   rw [aA] at h; obtain ⟨_, h⟩ := h
   obtain rfl := ya h
   rw [box?_ag (hA b (by simp))]; exact H
 ·exact h
 ·simp at h
theorem M6 {t : TypeId} {x : AV} {K J M : Option Int} (h : fU P t mem x K J M = some out) (hA : Ag out.rd mem mem') : fU P t mem' x K J M = some out := by
 unfold fU at h ⊢
 split at h
 ·exact h
 ·rw [bind_some] at h ⊢; obtain ⟨s, hs, h⟩ := h
  refine ⟨s, hs, ?_⟩
  split at h <;> try exact h
  ·rename_i b g o n
   rw [bind_some] at h ⊢; obtain ⟨I, H, h⟩ := h
   refine ⟨I, ?_, h⟩
   rw [aA] at h; obtain ⟨_, h⟩ := h
   obtain ⟨q, _, rfl⟩ := yc.1 h
   rw [box?_ag (hA b (by simp))]; exact H
  ·rename_i b g
   rw [bind_some] at h ⊢; obtain ⟨I, H, h⟩ := h
   refine ⟨I, ?_, h⟩
   rw [aA] at h; obtain ⟨_, h⟩ := h
   obtain ⟨q, _, rfl⟩ := yc.1 h
   rw [box?_ag (hA b (by simp))]; exact H
 ·rw [bind_some] at h ⊢; obtain ⟨s, hs, h⟩ := h
  refine ⟨s, hs, ?_⟩
  split at h
  ·rename_i b g c
   rw [aA] at h ⊢; obtain ⟨N, h⟩ := h
   refine ⟨N, ?_⟩
   rw [bind_some] at h ⊢; obtain ⟨I, H, h⟩ := h
   refine ⟨I, ?_, h⟩
   split at h
   ·rw [aA] at h; obtain ⟨_, h⟩ := h
    obtain ⟨q, _, rfl⟩ := yc.1 h
    rw [box?_ag (hA b (by simp))]; exact H
   ·simp at h
  ·simp at h
 ·simp at h
theorem Li {boxed vars : Bool} {t W : TypeId} {rs : Nat} {x y : AV} (h : gO P boxed vars t W mem rs x y = some out) (hA : Ag out.rd mem mem') : gO P boxed vars t W mem' rs x y = some out := by
 unfold gO at h ⊢
 rw [bind_some] at h ⊢; obtain ⟨Z, K, h⟩ := h; refine ⟨Z, K, ?_⟩
 rw [bind_some] at h ⊢; obtain ⟨s, hs, h⟩ := h; refine ⟨s, hs, ?_⟩
 rw [bind_some] at h ⊢; obtain ⟨bytes, N, h⟩ := h; refine ⟨bytes, N, ?_⟩
 rw [bind_some] at h ⊢; obtain ⟨z, hz, h⟩ := h; refine ⟨z, hz, ?_⟩
 rw [bind_some] at h ⊢; obtain ⟨U, H, h⟩ := h
 have h0 := h
 rw [aA] at h; obtain ⟨V, h⟩ := h
 split at h
 ·refine ⟨U, ?_, h0⟩
  rw [aA] at h; obtain ⟨_, h⟩ := h
  refine AJ H (hA.sub fun b J => ?_)
  cases boxed with
  | true => simp only [yl] at h; obtain ⟨row, _, rfl⟩ := yc.1 h; exact J
  | false => simp only [yk] at h; obtain ⟨v, _, rfl⟩ := yc.1 h; exact J
 ·rename_i b g
  have Y := h
  rw [bind_some] at h; obtain ⟨O, I, h⟩ := h
  have M := h
  rw [bind_some] at h; obtain ⟨zv, _, h⟩ := h
  rw [aA] at h; obtain ⟨_, h⟩ := h
  obtain rfl := ya h
  refine ⟨U, AJ H (hA.sub fun b J => yh _ J), ?_⟩
  rw [aA]
  refine ⟨V, ?_⟩
  rw [bind_some]
  exact ⟨O, by rw [box?_ag (hA b (ym ..))]; exact I, M⟩
 ·rename_i b g n
  have Y := h
  rw [bind_some] at h; obtain ⟨O, I, h⟩ := h
  have M := h
  rw [bind_some] at h; obtain ⟨xv, _, h⟩ := h
  rw [bind_some] at h; obtain ⟨zv, _, h⟩ := h
  rw [aA] at h; obtain ⟨_, h⟩ := h
  obtain rfl := ya h
  refine ⟨U, AJ H (hA.sub fun b J => yh _ J), ?_⟩
  rw [aA]
  refine ⟨V, ?_⟩
  rw [bind_some]
  exact ⟨O, by rw [box?_ag (hA b (ym ..))]; exact I, M⟩
 ·simp at h
theorem NG {t I : TypeId} {rs : Nat} {n : Int} (h : CD P t I mem rs n = some out) : CD P t I mem' rs n = some out := by
 unfold CD at h ⊢
 split at h
 ·rw [bind_some] at h ⊢; obtain ⟨M, H, h⟩ := h
  refine ⟨M, H, ?_⟩
  rw [bind_some] at h ⊢; obtain ⟨z, U, h⟩ := h
  refine ⟨z, U, ?_⟩
  split at h
  ·rw [bind_some] at h ⊢; obtain ⟨q, O, h⟩ := h
   have N := h
   rw [bind_some] at h; obtain ⟨e, _, h⟩ := h
   rw [bind_some] at h; obtain ⟨bytes, _, h⟩ := h
   rw [aA] at h
   have J := h.1
   simp only [yb] at J
   exact ⟨q, C5 O (by rw [mL J.2.2]; exact fun b K => by cases K), N⟩
  ·cases h
 ·cases h
theorem J1 {boxed vars : Bool} {b : Builtin} {ts : List TypeId} {rs : Nat} {args : List AV} (h : dX P boxed vars b ts mem rs args = some out) (hA : Ag out.rd mem mem') : dX P boxed vars b ts mem' rs args = some out := by
 unfold dX at h ⊢
 split at h
 ·obtain ⟨n, hn, rfl⟩ := yc.1 h
  exact yc.2 ⟨n, NM hn hA, rfl⟩
 ·exact NG h
 ·exact Li h hA
 ·exact h
 ·exact h
 ·exact h
 ·simp at h
theorem IY {boxed : Bool} {H dst : TypeId} {rs : Nat} {x : AV} (h : kX P boxed H dst mem rs x = some out) (hA : Ag out.rd mem mem') : kX P boxed H dst mem' rs x = some out := by
 unfold kX at h ⊢
 split at h
 ·exact h
 ·exact h
 ·split at h
  ·rw [bind_some] at h ⊢; obtain ⟨v, J, h⟩ := h
   refine ⟨v, AJ J ?_, h⟩
   rw [aA] at h; obtain ⟨_, h⟩ := h
   split at h
   ·obtain rfl := ya h; exact hA
   ·simp at h
  ·exact h
 ·split at h
  ·rw [aA] at h ⊢; obtain ⟨K, h⟩ := h; refine ⟨K, ?_⟩
   rw [bind_some] at h ⊢; obtain ⟨x, I, h⟩ := h
   refine ⟨x, ?_, h⟩
   rw [aA] at h; obtain ⟨_, h⟩ := h
   obtain rfl := ya h
   rw [box?_ag (hA _ (by simp))]; exact I
  ·exact h
 ·simp at h
theorem vB {l : LK} {v : AV} {r : AV × List Nat} (h : gF P mem l v = some r) (hA : Ag r.2 mem mem') : gF P mem' l v = some r := by
 unfold gF at h ⊢
 split at h
 ·obtain ⟨q, H, rfl⟩ := yc.1 h
  exact yc.2 ⟨q, E8 H hA, rfl⟩
 ·obtain ⟨q, H, rfl⟩ := yc.1 h
  exact yc.2 ⟨q, E8 H hA, rfl⟩
 ·exact h
theorem AY : ∀ {ls : List LK} {vs : List AV} {r : List AV × List Nat}, bV P mem ls vs = some r → Ag r.2 mem mem' → bV P mem' ls vs = some r
 | [], [], r, h, _ => h
 | [], v :: vs, r, h, _ => by simp [bV] at h
 | l :: ls, [], r, h, _ => by simp [bV] at h
 | l :: ls, v :: vs, r, h, hA => by
  simp only [bV] at h ⊢
  rw [bind_some] at h; obtain ⟨a, I, h⟩ := h
  rw [bind_some] at h; obtain ⟨b, H, h⟩ := h
  obtain rfl := ya h
  rw [vB I (hA.sub fun b H => yq1 _ H), AY H (hA.sub fun b H => ys1 _ H)]
  rfl
theorem OS {t : TypeId} {v : AV} {r : AV × List Nat} (h : lend P mem t v = some r) (hA : Ag r.2 mem mem') : lend P mem' t v = some r := by
 unfold lend at h ⊢
 split at h
 ·rw [bind_some] at h ⊢; obtain ⟨l, I, h⟩ := h
  exact ⟨l, I, vB h hA⟩
 ·rw [bind_some] at h ⊢; obtain ⟨l, I, h⟩ := h
  exact ⟨l, I, vB h hA⟩
 ·rename_i cs
  cases H : Gk cs with
  | true =>
   rw [H] at h; simp only [yl] at h ⊢
   rw [bind_some] at h ⊢; obtain ⟨ls, J, h⟩ := h
   refine ⟨ls, J, ?_⟩
   obtain ⟨q, K, rfl⟩ := yc.1 h
   exact yc.2 ⟨q, AY K hA, rfl⟩
  | false => rw [H] at h; exact h
 ·exact h
theorem Fl : ∀ {ts : List TypeId} {vs : List AV} {r : List AV × List Nat}, fZ P mem ts vs = some r → Ag r.2 mem mem' → fZ P mem' ts vs = some r
 | [], [], r, h, _ => h
 | [], v :: vs, r, h, _ => by simp [fZ] at h
 | t :: ts, [], r, h, _ => by simp [fZ] at h
 | t :: ts, v :: vs, r, h, hA => by
  simp only [fZ] at h ⊢
  rw [bind_some] at h; obtain ⟨a, I, h⟩ := h
  rw [bind_some] at h; obtain ⟨b, H, h⟩ := h
  obtain rfl := ya h
  rw [OS I (hA.sub fun b H => yq1 _ H), Fl H (hA.sub fun b H => ys1 _ H)]
  rfl
theorem BO : ∀ {n : Nat} {I H : List Nat}, ∀ b ∈ H, b ∈ f6 mem n I H
 | 0, I, H, b, J => by simpa [f6] using J
 | n + 1, [], H, b, J => by simpa [f6] using J
 | n + 1, t :: I, H, b, J => by
  simp only [f6]
  cases eZ t H with
  | true => simp only [yl]; exact BO b J
  | false => simp only [yk]; exact BO b (yq1 _ J)
theorem E4 : ∀ {n : Nat} {I H : List Nat}, Ag (f6 mem n I H) mem mem' → f6 mem' n I H = f6 mem n I H
 | 0, I, H, _ => by simp [f6]
 | n + 1, [], H, _ => by simp [f6]
 | n + 1, t :: I, H, hA => by
  simp only [f6] at hA ⊢
  cases hm : eZ t H with
  | true => rw [hm] at hA; simp only [yl] at hA ⊢; exact E4 hA
  | false =>
   rw [hm] at hA; simp only [yk] at hA ⊢
   have ht : mem'[t]? = mem[t]? := hA t (BO t (by simp))
   have : A0 mem' t = A0 mem t := by unfold A0; rw [ht]
   rw [this]
   exact E4 hA
theorem FB : ∀ {ids : List Nat} {b n : Nat}, b ∉ ids → sE b ids n = none
 | [], b, n, _ => rfl
 | m :: r, b, n, h => by
  simp only [sE]
  cases H : Nat.beq m b with
  | true => exact absurd (by rw [bJ.1 H]; exact ym ..) h
  | false => simp only [yk]; exact FB fun I => h (yh _ I)
theorem K2 {b : Nat} (h : mem'[b]? = mem[b]?) : kP mem' b = kP mem b := by unfold kP; rw [h]
theorem N9 {m : Nat} {keep : Bool} {ids : List Nat} (hA : Ag ids mem mem') : fC m keep mem' ids = fC m keep mem ids := by
 funext b g
 by_cases H : b ∈ ids
 ·unfold fC; rw [Fm (hA b H), K2 (hA b H)]
 ·have J : sE b ids 0 = none := FB H
  have : ∀ I : aH, fC m keep I ids b g = none := by
   intro I
   unfold fC
   split
   ·rw [J]; cases Nat.beq _ g <;> rfl
   ·rfl
  rw [this, this]
theorem Er {m : Nat} {keep : Bool} (f : jV) : ∀ {ids : List Nat} {n : Nat}, Ag ids mem mem' → d5 m keep f mem' n ids = d5 m keep f mem n ids
 | [], _, _ => rfl
 | b :: r, n, h => by
  simp only [d5, h b (ym ..), Er f (ids := r) (h.sub fun b H => yh _ H)]
theorem qM (f : jV) : ∀ {ids : List Nat} {q : aH}, Ag ids mem mem' → a8 f mem' ids q = a8 f mem ids q
 | [], q, _ => by simp [a8]
 | a :: ids, [], _ => by simp [a8]
 | a :: ids, none :: q, h => by simp only [a8]; exact qM f (h.sub fun b H => yh _ H)
 | a :: ids, some x :: q, h => by
  simp only [a8, Fm (h a (ym ..)), qM f (ids := ids) (q := q) (h.sub fun b H => yh _ H)]
theorem Kb {sub : aH} {ids : List Nat} (H : mem'.length = mem.length) (hA : Ag ids mem mem') : cX mem' sub ids = cX mem sub ids := by
 funext b g
 unfold cX
 cases I : ids[b]? with
 | none => simp only [H]
 | some a => simp only [Fm (hA a (yt I))]
theorem Nm {keep : Bool} {ts : List TypeId} {vs : List AV} {r : List AV × List Nat} (h : Jb P keep mem ts vs = some r) (hA : Ag r.2 mem mem') : Jb P keep mem' ts vs = some r := by
 cases keep with
 | true => exact h
 | false => exact Fl h hA
theorem Ng {C : bQ} {raw keep : Bool} {g : FuncId} {ts : List TypeId} {I args H : List AV} (V : mem'.length = mem.length) (h : yI P C raw keep g ts I args H mem = some out) (hA : Ag out.rd mem mem') : yI P C raw keep g ts I args H mem' = some out := by
 unfold yI at h ⊢
 rw [bind_some] at h ⊢; obtain ⟨J, U, h⟩ := h
 simp only at h
 have O : out.rd = J.2 ++ f6 mem (dH mem (AV.refsAll (I ++ J.1 ++ H)).length) (AV.refsAll (I ++ J.1 ++ H)) [] := by
  rw [aA] at h; obtain ⟨_, h⟩ := h
  rw [bind_some] at h; obtain ⟨q, _, h⟩ := h
  rw [aA] at h; obtain ⟨_, h⟩ := h
  revert h
  cases (fN (f6 mem (dH mem (AV.refsAll (I ++ J.1 ++ H)).length) (AV.refsAll (I ++ J.1 ++ H)) []).length
    (bif raw then q.1 else lG (f6 mem (dH mem (AV.refsAll (I ++ J.1 ++ H)).length) (AV.refsAll (I ++ J.1 ++ H)) []).length q.2 q.1).refs &&
     fN (f6 mem (dH mem (AV.refsAll (I ++ J.1 ++ H)).length) (AV.refsAll (I ++ J.1 ++ H)) []).length
      (b9 (List.take (f6 mem (dH mem (AV.refsAll (I ++ J.1 ++ H)).length) (AV.refsAll (I ++ J.1 ++ H)) []).length q.2))) with
  | true => intro h; simp only [yl] at h; obtain rfl := ya h; rfl
  | false => intro h; simp only [yk] at h; obtain rfl := ya h; rfl
 rw [O] at hA
 refine ⟨J, Nm U (hA.sub fun b N => yq1 _ N), ?_⟩
 have M : ∀ n, dH mem' n = dH mem n := fun n => by unfold dH; rw [V]
 have K := hA.sub (S' := f6 mem (dH mem (AV.refsAll (I ++ J.1 ++ H)).length) (AV.refsAll (I ++ J.1 ++ H)) []) fun b N => ys1 _ N
 simp only [M, E4 K, N9 K, Er _ K, Kb V K, qM _ K]
 exact h
theorem Pp {C : bQ} {boxed raw vars : Bool} {o : Oper} {ρ : Operand → Option AV} {rs : Nat} (hl : kW o = true → mem'.length = mem.length) (h : LC P C boxed raw vars o ρ mem rs = some out) (hA : Ag out.rd mem mem') :
  LC P C boxed raw vars o ρ mem' rs = some out := by
 unfold LC Dv AL IL Aw fJ wS Jj Ju Nk Ei BQ wU kU z7 wI oY Bd at h ⊢
 split at h <;> rename_i N <;> try exact h
 ·rw [bind_some] at h ⊢; obtain ⟨W, I, h⟩ := h; refine ⟨W, I, ?_⟩
  rw [bind_some] at h ⊢; obtain ⟨z, hz, h⟩ := h; refine ⟨z, hz, ?_⟩
  rw [bind_some] at h ⊢; obtain ⟨s, hs, h⟩ := h; refine ⟨s, hs, ?_⟩
  rw [bind_some] at h ⊢; obtain ⟨ps, hps, h⟩ := h; refine ⟨ps, hps, ?_⟩
  rw [aA] at h ⊢; obtain ⟨J, h⟩ := h; refine ⟨J, ?_⟩
  rw [bind_some] at h ⊢; obtain ⟨wv, U, h⟩ := h
  have h' := h
  rw [aA] at h; obtain ⟨_, h⟩ := h
  obtain ⟨ov, _, rfl⟩ := yc.1 h
  exact ⟨wv, M8 U hA, by rw [s7 hA]; exact h'⟩
 ·rw [bind_some] at h ⊢; obtain ⟨a, K, h⟩ := h
  exact ⟨a, K, Nn h hA⟩
 ·rw [bind_some] at h ⊢; obtain ⟨a, K, h⟩ := h; refine ⟨a, K, ?_⟩
  rw [bind_some] at h ⊢; obtain ⟨x, M, h⟩ := h
  exact ⟨x, M, Mw h hA⟩
 ·rw [bind_some] at h ⊢; obtain ⟨a, K, h⟩ := h
  exact ⟨a, K, IY h hA⟩
 ·rw [bind_some] at h ⊢; obtain ⟨W, I, h⟩ := h; refine ⟨W, I, ?_⟩
  rw [bind_some] at h ⊢; obtain ⟨z, hz, h⟩ := h; refine ⟨z, hz, ?_⟩
  rw [bind_some] at h ⊢; obtain ⟨l, V, h⟩ := h; refine ⟨l, V, ?_⟩
  rw [bind_some] at h ⊢; obtain ⟨c, Z, h⟩ := h; refine ⟨c, Z, ?_⟩
  split at h
  ·rw [aA] at h ⊢; obtain ⟨J, h⟩ := h; refine ⟨J, ?_⟩
   split at h
   ·exact h
   ·rw [bind_some] at h ⊢; obtain ⟨q, hq, h⟩ := h
    refine ⟨q, ?_, h⟩
    rw [bind_some] at h; obtain ⟨e, _, h⟩ := h
    rw [bind_some] at h; obtain ⟨bytes, _, h⟩ := h
    rw [aA] at h; obtain ⟨J, h⟩ := h
    simp only [yb] at J
    have : q.2.2 = [] := mL J.2
    exact C5 hq (by rw [this]; intro b hb; cases hb)
  ·exact h
 ·rw [bind_some] at h ⊢; obtain ⟨x, M, h⟩ := h; refine ⟨x, M, ?_⟩
  rw [bind_some] at h ⊢; obtain ⟨lo, Y, h⟩ := h; refine ⟨lo, Y, ?_⟩
  rw [bind_some] at h ⊢; obtain ⟨hi, hhi, h⟩ := h; refine ⟨hi, hhi, ?_⟩
  rw [bind_some] at h ⊢; obtain ⟨mx, O, h⟩ := h
  exact ⟨mx, O, M6 h hA⟩
 ·rw [bind_some] at h ⊢; obtain ⟨x, M, h⟩ := h; refine ⟨x, M, ?_⟩
  rw [bind_some] at h ⊢; obtain ⟨ix, hix, h⟩ := h; refine ⟨ix, hix, ?_⟩
  split at h
  ·exact MO h hA
  ·exact h
 ·rename_i c
  rw [bind_some] at h ⊢; obtain ⟨args, H, h⟩ := h; refine ⟨args, H, ?_⟩
  split at h
  ·exact J1 h hA
  ·rename_i f Z
   rw [bind_some] at h ⊢; obtain ⟨fv, hf, h⟩ := h; refine ⟨fv, hf, ?_⟩
   split at h
   ·exact Ng (hl (by unfold kW; rw [N]; simp only; rw [Z])) h hA
   ·exact h
  ·exact h
theorem mX {ρ ρ' : Operand → Option AV} : ∀ {xs : List Operand}, (∀ x ∈ xs, ρ' x = ρ x) → m6 ρ' xs = m6 ρ xs
 | [], _ => rfl
 | x :: r, h => by simp only [m6, h x (ym ..), mX (xs := r) (fun y H => h y (yh _ H))]
theorem lQ {ρ ρ' : Operand → Option AV} : ∀ {xs : List (Nat × Operand)}, (∀ x ∈ xs.map (·.2), ρ' x = ρ x) → kC ρ' xs = kC ρ xs
 | [], _ => rfl
 | (i, x) :: r, h => by simp only [kC, h x (by simp), lQ (xs := r) (fun y H => h y (yh _ H))]
theorem j4 {ρ ρ' : Operand → Option AV} {x : Option Operand} (h : ∀ y, x = some y → ρ' y = ρ y) : z6 ρ' x = z6 ρ x := by
 cases x with
 | none => rfl
 | some y => simp only [z6, h y rfl]
theorem OU {C : bQ} {boxed raw vars : Bool} {o : Oper} {ρ ρ' : Operand → Option AV} {rs : Nat} (h : ∀ x ∈ o.op.operands, ρ' x = ρ x) : LC P C boxed raw vars o ρ' mem rs = LC P C boxed raw vars o ρ mem rs := by
 obtain ⟨dst, op, M, N, J, guard⟩ := o
 cases op <;> simp only [Op.operands] at h <;> simp only [LC, Dv, AL, IL, Aw, fJ, wS, Jj, Ju, Nk, Ei, BQ, wU, kU, z7, wI, oR, oY, Bd]
 case move x => simp only [rX, h x (by simp)]
 case assign x => simp only [rX, h x (by simp)]
 case build t ps => rw [lQ (fun x H => h x (by simpa using H))]
 case buildSlice t n ps => rw [lQ (fun x H => h x (by simpa using H))]
 case makeFunc fn first captured =>
  rw [mX (xs := first.toList) fun x H => h x (by simp at H ⊢; exact .inl H), mX (xs := captured.toList) fun x H => h x (by simp at H ⊢; exact .inr H)]
 case slice t x lo hi mx =>
  rw [h x (by simp), j4 (x := lo) fun y I => h y (by simp [I]), j4 (x := hi) fun y I => h y (by simp [I]), j4 (x := mx) fun y I => h y (by simp [I])]
 case call c =>
  obtain ⟨K, args, ts⟩ := c
  simp only [Call.operands] at h
  rw [mX (xs := args.toList) fun x H => h x (by simp at H ⊢; exact .inr H)]
  cases K with
  | builtin b => rfl
  | value f => simp only [h f (by simp)]
  | invoke r m => rfl
 all_goals (first | rfl | (simp_all; done))
theorem J3 {xs : List PV} {i c : Nat} {l : LK} {hs : List (Nat × Nat × AV)} {nb nb' : Nat} : nR false xs i c l hs nb = nR false xs i c l hs nb' := by
 unfold nR
 cases xs[i]? with
 | none => rfl
 | some p =>
  simp only [ye]
  cases p.cells[c]? with
  | none => rfl
  | some y =>
   simp only [ye]
   split
   ·rfl
   ·cases y8 l <;> rfl
theorem GB {xs : List PV} {i : Nat} : ∀ {ls : List LK} {c : Nat} {hs : List (Nat × Nat × AV)} {nb nb' : Nat}, n7 false xs i ls c hs nb = n7 false xs i ls c hs nb'
 | [], c, hs, nb, nb' => rfl
 | l :: ls, c, hs, nb, nb' => by
  simp only [n7]
  rw [J3 (nb' := nb')]
  cases nR false xs i c l hs nb' with
  | none => rfl
  | some a => simp only [ye]; rw [GB (ls := ls) (nb := nb + a.2.2.length) (nb' := nb' + a.2.2.length)]
theorem Ji {b e : Nat} {H : a9} {xs : List PV} {v : AV} {q : List (Nat × Nat × AV) × List Row} : (AC b e H xs v q).rd = [b] := by unfold AC; split <;> rfl
theorem Jc {t : TypeId} {a : AV} (h : zS P false t mem a = some out) (hA : Ag out.rd mem mem') : zS P false t mem' a = some out ∧ ∀ b g i c, a = .ptr b g i c → b ∈ out.rd := by
 unfold zS at h ⊢
 split at h
 ·rename_i b g i c
  rw [bind_some] at h; obtain ⟨bx, I, h⟩ := h
  have H : b ∈ out.rd := by
   split at h
   ·split at h
    ·rw [bind_some] at h; obtain ⟨l, hl, h⟩ := h
     obtain ⟨q, J, rfl⟩ := yc.1 h
     rw [Ji]; simp
    ·rw [bind_some] at h; obtain ⟨ls, K, h⟩ := h
     rw [bind_some] at h; obtain ⟨n, hn, h⟩ := h
     rw [aA] at h; obtain ⟨_, h⟩ := h
     obtain ⟨q, J, rfl⟩ := yc.1 h
     rw [Ji]; simp
    ·cases h
   ·cases h
  refine ⟨?_, fun b' g' i' c' M => by cases M; exact H⟩
  rw [boxO?_ag (hA b H), I, ye]
  split at h
  ·split at h
   ·simp only [J3 (nb := mem'.length) (nb' := mem.length)]; exact h
   ·simp only [GB (nb := mem'.length) (nb' := mem.length)]; exact h
   ·exact h
  ·exact h
 ·cases h
theorem Mg {t : TypeId} {a x : AV} (h : lF P t mem a x = some out) (hA : Ag out.rd mem mem') : lF P t mem' a x = some out ∧ ∀ b g i c, a = .ptr b g i c → b ∈ out.rd := by
 unfold lF at h ⊢
 split at h
 ·rename_i b g i c
  rw [bind_some] at h; obtain ⟨bx, I, h⟩ := h
  have H : b ∈ out.rd := by
   split at h
   ·rw [bind_some] at h; obtain ⟨n, hn, h⟩ := h
    rw [aA] at h; obtain ⟨_, h⟩ := h
    rw [bind_some] at h; obtain ⟨p, _, h⟩ := h
    rw [bind_some] at h; obtain ⟨y, _, h⟩ := h
    split at h
    ·rw [aA] at h; obtain ⟨_, h⟩ := h; obtain rfl := ya h; simp
    ·cases h
    ·rw [bind_some] at h; obtain ⟨y', _, h⟩ := h
     obtain ⟨hs', _, rfl⟩ := yc.1 h; simp
    ·cases h
    ·obtain ⟨hs', _, rfl⟩ := yc.1 h; simp
   ·cases h
  refine ⟨?_, fun b' g' i' c' J => by cases J; exact H⟩
  rw [boxO?_ag (hA b H), I, ye]; exact h
 ·cases h
theorem Ov {t : TypeId} {x : AV} (h : JZ P t mem x = some out) (hA : Ag out.rd mem mem') : JZ P t mem' x = some out ∧ ∀ b g, x = .msw b g → b ∈ out.rd := by
 unfold JZ at h ⊢
 split at h
 ·rename_i e b g hu
  obtain ⟨bx, H, rfl⟩ := yc.1 h
  refine ⟨?_, fun b' g' I => by cases I; simp⟩
  rw [boxO?_ag (hA b (by simp)), H]; rfl
 ·cases h
def sB : AV → Option Nat
 | .msw b _ => some b
 | .ms b _ _ _ => some b
 | _ => none
theorem MG {t : TypeId} {x : AV} {i : Int} (h : qT P t mem x i = some out) (hA : Ag out.rd mem mem') : qT P t mem' x i = some out ∧ ∀ b, sB x = some b → b ∈ out.rd := by
 unfold qT at h ⊢
 split at h
 ·rw [bind_some] at h; obtain ⟨s, hs, h⟩ := h
  simp only [hs, ye]
  split at h
  ·rename_i b g o n
   rw [bind_some] at h; obtain ⟨K, H, h⟩ := h
   have I := h
   rw [aA] at h; obtain ⟨_, h⟩ := h
   obtain rfl := ya h
   refine ⟨?_, fun M J => by cases J; simp⟩
   rw [boxO?_ag (hA b (by simp)), H]; exact I
  ·rename_i b g
   rw [bind_some] at h; obtain ⟨K, H, h⟩ := h
   have I := h
   rw [aA] at h; obtain ⟨_, h⟩ := h
   obtain rfl := ya h
   refine ⟨?_, fun M J => by cases J; simp⟩
   rw [boxO?_ag (hA b (by simp)), H]; exact I
  ·cases h
 ·cases h
theorem MI {t : TypeId} {x : AV} {M K N : Option Int} (h : qJ P t mem x M K N = some out) (hA : Ag out.rd mem mem') : qJ P t mem' x M K N = some out ∧ ∀ b, sB x = some b → b ∈ out.rd := by
 unfold qJ at h ⊢
 split at h
 ·rw [bind_some] at h; obtain ⟨s, hs, h⟩ := h
  simp only [hs, ye]
  split at h
  ·rename_i b g o n
   rw [bind_some] at h; obtain ⟨U, H, h⟩ := h
   have I := h
   rw [aA] at h; obtain ⟨_, h⟩ := h
   obtain ⟨q, _, rfl⟩ := yc.1 h
   refine ⟨?_, fun O J => by cases J; simp⟩
   rw [boxO?_ag (hA b (by simp)), H]; exact I
  ·rename_i b g
   rw [bind_some] at h; obtain ⟨U, H, h⟩ := h
   have I := h
   rw [aA] at h; obtain ⟨_, h⟩ := h
   obtain ⟨q, _, rfl⟩ := yc.1 h
   refine ⟨?_, fun O J => by cases J; simp⟩
   rw [boxO?_ag (hA b (by simp)), H]; exact I
  ·cases h
 ·cases h
theorem Lh {own : Bool} {t O : TypeId} {rs : Nat} {x y : AV} (h : l4 P own t O mem rs x y = some out) (hA : Ag out.rd mem mem') : l4 P own t O mem' rs x y = some out ∧ ∀ b, sB x = some b → b ∈ out.rd := by
 unfold l4 at h ⊢
 rw [bind_some] at h; obtain ⟨et, J, h⟩ := h
 rw [bind_some] at h; obtain ⟨s, hs, h⟩ := h
 rw [bind_some] at h; obtain ⟨bytes, M, h⟩ := h
 rw [bind_some] at h; obtain ⟨z, Y, h⟩ := h
 rw [bind_some] at h; obtain ⟨ls, N, h⟩ := h
 rw [bind_some] at h; obtain ⟨W, K, h⟩ := h
 simp only [J, hs, M, Y, N, ye]
 have I : (∀ b ∈ W.2, b ∈ out.rd) ∧ ∀ b, sB x = some b → b ∈ out.rd := by
  split at h
  ·rw [aA] at h; obtain ⟨_, h⟩ := h
   split at h
   ·rw [aA] at h; obtain ⟨_, h⟩ := h
    rw [bind_some] at h; obtain ⟨q, _, h⟩ := h
    rw [aA] at h; obtain ⟨_, h⟩ := h
    obtain rfl := ya h
    exact ⟨fun b H => H, fun b H => by cases H⟩
   ·rw [bind_some] at h; obtain ⟨U, _, h⟩ := h
    split at h
    ·rw [bind_some] at h; obtain ⟨q, _, h⟩ := h
     rw [aA] at h; obtain ⟨_, h⟩ := h
     obtain rfl := ya h
     exact ⟨fun b H => yh _ H, fun b H => by cases H; simp⟩
    ·cases h
   ·rw [bind_some] at h; obtain ⟨U, _, h⟩ := h
    split at h
    ·rw [bind_some] at h; obtain ⟨q, _, h⟩ := h
     rw [aA] at h; obtain ⟨_, h⟩ := h
     obtain rfl := ya h
     exact ⟨fun b H => yh _ H, fun b H => by cases H; simp⟩
    ·cases h
   ·cases h
  ·cases h
 refine ⟨?_, I.2⟩
 rw [AJ K (hA.sub I.1), ye]
 split at h
 ·rw [aA] at h ⊢; obtain ⟨V, h⟩ := h
  refine ⟨V, ?_⟩
  split at h
  ·exact h
  ·rename_i b g
   rw [boxO?_ag (hA b (I.2 b rfl))]; exact h
  ·rename_i b g n
   rw [boxO?_ag (hA b (I.2 b rfl))]; exact h
  ·exact h
 ·exact h
theorem iI {ρ : Operand → Option AV} {p H : AV → Bool} {x : Operand} {v : AV} (I : ρ x = some v) (h : H v = p v) : lE ρ H x = lE ρ p x := by unfold lE; rw [I]; exact h
theorem CY {v : AV} (h : ∀ b g i c, v = .ptr b g i c → mem'[b]? = mem[b]?) : Hg mem' v = Hg mem v := by
 cases v with
 | ptr b g i c => exact Al (h b g i c rfl)
 | _ => rfl
theorem v6 {v : AV} (h : ∀ b, sB v = some b → mem'[b]? = mem[b]?) : y0 mem' v = y0 mem v := by
 cases v with
 | msw b g => exact Al (h b rfl)
 | ms b g o n => exact Al (h b rfl)
 | _ => rfl
theorem L8 {v : AV} (h : ∀ b g, v = .msw b g → mem'[b]? = mem[b]?) : HQ mem' v = HQ mem v := by
 cases v with
 | msw b g => exact Al (h b g rfl)
 | _ => rfl
theorem Jr {t : TypeId} {b g i c : Nat} (h : i7 P t mem (.ptr b g i c) = some out) : b ∈ out.rd := by
 unfold i7 at h
 simp only at h
 rw [bind_some] at h; obtain ⟨x, hx, h⟩ := h
 split at h
 ·rw [bind_some] at h; obtain ⟨ag, _, h⟩ := h
  cases ag with
  | true =>
   simp only [yl] at h
   rw [bind_some] at h; obtain ⟨n, _, h⟩ := h
   rw [aA] at h; obtain ⟨_, h⟩ := h
   obtain rfl := ya h; simp
  | false =>
   simp only [yk] at h
   obtain ⟨v, _, rfl⟩ := yc.1 h; simp
 ·rw [aA] at h; obtain ⟨_, h⟩ := h
  rw [aA] at h; obtain ⟨_, h⟩ := h
  obtain ⟨v, _, rfl⟩ := yc.1 h; simp
 ·rw [bind_some] at h; obtain ⟨y, _, h⟩ := h
  obtain ⟨v, _, rfl⟩ := yc.1 h; simp
 ·cases h
theorem MP {t : TypeId} {x : AV} {b g i c : Nat} (h : iR P t mem (.ptr b g i c) x = some out) : b ∈ out.rd := by
 unfold iR at h
 simp only at h
 rw [bind_some] at h; obtain ⟨bx, H, h⟩ := h
 rw [bind_some] at h; obtain ⟨n, _, h⟩ := h
 rw [aA] at h; obtain ⟨_, h⟩ := h
 split at h
 ·rw [aA] at h; obtain ⟨_, h⟩ := h
  obtain rfl := ya h; simp
 ·split at h
  ·rw [aA] at h; obtain ⟨_, h⟩ := h
   obtain rfl := ya h; simp
  ·simp at h
 ·rw [bind_some] at h; obtain ⟨p, _, h⟩ := h
  rw [bind_some] at h; obtain ⟨q, _, h⟩ := h
  rw [aA] at h; obtain ⟨_, h⟩ := h
  obtain rfl := ya h; simp
 ·cases h
theorem As {x : AV} {b : Nat} (h : sB x = some b) : (∃ g, x = .msw b g) ∨ ∃ g o n, x = .ms b g o n := by
 unfold sB at h
 split at h
 ·cases h; exact .inl ⟨_, rfl⟩
 ·cases h; exact .inr ⟨_, _, _, rfl⟩
 ·cases h
theorem ML {t : TypeId} {x : AV} {J H K : Option Int} {b : Nat} (h : fU P t mem x J H K = some out) (I : sB x = some b) : b ∈ out.rd := by
 unfold fU at h
 rcases As I with ⟨g, rfl⟩ | ⟨g, o, n, rfl⟩ <;> simp only at h <;> split at h
 ·cases h
 ·rw [bind_some] at h; obtain ⟨s, _, h⟩ := h
  rw [bind_some] at h; obtain ⟨x, _, h⟩ := h
  rw [aA] at h; obtain ⟨_, h⟩ := h
  obtain ⟨q, _, rfl⟩ := yc.1 h; simp
 ·rw [bind_some] at h; obtain ⟨s, _, h⟩ := h; cases h
 ·cases h
 ·cases h
 ·rw [bind_some] at h; obtain ⟨s, _, h⟩ := h
  rw [bind_some] at h; obtain ⟨x, _, h⟩ := h
  rw [aA] at h; obtain ⟨_, h⟩ := h
  obtain ⟨q, _, rfl⟩ := yc.1 h; simp
 ·rw [bind_some] at h; obtain ⟨s, _, h⟩ := h; cases h
 ·cases h
theorem M4 {t : TypeId} {x : AV} {i : Int} {b : Nat} (h : gV P t mem x i = some out) (H : sB x = some b) : b ∈ out.rd := by
 unfold gV at h
 rcases As H with ⟨g, rfl⟩ | ⟨g, o, n, rfl⟩ <;> simp only at h <;> split at h
 ·rw [bind_some] at h; obtain ⟨s, _, h⟩ := h
  rw [bind_some] at h; obtain ⟨x, _, h⟩ := h
  rw [aA] at h; obtain ⟨_, h⟩ := h
  obtain rfl := ya h; simp
 ·rw [bind_some] at h; obtain ⟨s, _, h⟩ := h; cases h
 ·cases h
 ·rw [bind_some] at h; obtain ⟨s, _, h⟩ := h
  rw [bind_some] at h; obtain ⟨x, _, h⟩ := h
  rw [aA] at h; obtain ⟨_, h⟩ := h
  obtain rfl := ya h; simp
 ·rw [bind_some] at h; obtain ⟨s, _, h⟩ := h; cases h
 ·cases h
theorem Kf {boxed vars : Bool} {t N : TypeId} {rs : Nat} {x y : AV} {b : Nat} (h : gO P boxed vars t N mem rs x y = some out) (I : sB x = some b) : b ∈ out.rd := by
 unfold gO at h
 rw [bind_some] at h; obtain ⟨et, J, h⟩ := h
 rw [bind_some] at h; obtain ⟨s, hs, h⟩ := h
 rw [bind_some] at h; obtain ⟨bytes, M, h⟩ := h
 rw [bind_some] at h; obtain ⟨z, hz, h⟩ := h
 rw [bind_some] at h; obtain ⟨yv, K, h⟩ := h
 rw [aA] at h; obtain ⟨_, h⟩ := h
 rcases As I with ⟨g, H⟩ | ⟨g, o, n, H⟩ <;> subst H <;> try simp only at h
 ·rw [bind_some] at h; obtain ⟨x, _, h⟩ := h
  rw [bind_some] at h; obtain ⟨x, _, h⟩ := h
  rw [aA] at h; obtain ⟨_, h⟩ := h
  obtain rfl := ya h; simp
 ·cases o with
  | zero =>
   try simp only at h
   rw [bind_some] at h; obtain ⟨x, _, h⟩ := h
   rw [bind_some] at h; obtain ⟨x, _, h⟩ := h
   rw [bind_some] at h; obtain ⟨x, _, h⟩ := h
   rw [aA] at h; obtain ⟨_, h⟩ := h
   obtain rfl := ya h; simp
  | succ o => cases h
theorem Pj {own : Bool} {o : Oper} {ρ : Operand → Option AV} {rs : Nat} (h : F4 P own false o ρ mem rs = some out) (hA : Ag out.rd mem mem') :
  F4 P own false o ρ mem' rs = some out ∧ (bI own ρ mem o.op = true → bI own ρ mem' o.op = true) := by
 unfold F4 at h ⊢
 split at h <;> rename_i J
 ·exact ⟨h, fun I => by rw [J] at I ⊢; exact I⟩
 ·exact ⟨h, fun I => by rw [J] at I ⊢; exact I⟩
 ·exact ⟨h, fun I => by rw [J] at I ⊢; exact I⟩
 ·exact ⟨h, fun I => by rw [J] at I ⊢; exact I⟩
 ·rw [bind_some] at h; obtain ⟨a, W, h⟩ := h
  obtain ⟨K, M⟩ := Jc h hA
  refine ⟨by simp only [W, ye]; exact K, fun I => ?_⟩
  rw [J] at I ⊢
  simp only [bI] at I ⊢
  rw [iI (p := Hg mem) W (CY fun b g i c N => hA b (M b g i c N))]; exact I
 ·rw [bind_some] at h; obtain ⟨a, W, h⟩ := h
  rw [bind_some] at h; obtain ⟨x, U, h⟩ := h
  obtain ⟨K, M⟩ := Mg h hA
  refine ⟨by simp only [W, U, ye]; exact K, fun I => ?_⟩
  rw [J] at I ⊢
  simp only [bI] at I ⊢
  rw [iI (p := Hg mem) W (CY fun b g i c N => hA b (M b g i c N))]; exact I
 ·rw [bind_some] at h; obtain ⟨x, U, h⟩ := h
  rw [bind_some] at h; obtain ⟨lo, hlo, h⟩ := h
  rw [bind_some] at h; obtain ⟨I, hhi, h⟩ := h
  rw [bind_some] at h; obtain ⟨mx, Z, h⟩ := h
  obtain ⟨K, M⟩ := MI h hA
  refine ⟨by simp only [U, hlo, hhi, Z, ye]; exact K, fun I => ?_⟩
  rw [J] at I ⊢
  simp only [bI] at I ⊢
  rw [iI (p := y0 mem) U (v6 fun b N => hA b (M b N))]; exact I
 ·rw [bind_some] at h; obtain ⟨x, U, h⟩ := h
  rw [bind_some] at h; obtain ⟨ix, hix, h⟩ := h
  split at h
  ·obtain ⟨K, M⟩ := MG h hA
   refine ⟨by simp only [U, hix, ye]; exact K, fun I => ?_⟩
   rw [J] at I ⊢
   simp only [bI] at I ⊢
   rw [iI (p := y0 mem) U (v6 fun b N => hA b (M b N))]; exact I
  ·cases h
 ·rename_i c
  obtain ⟨cal, args, ts⟩ := c
  rw [bind_some] at h; obtain ⟨as, H, h⟩ := h
  simp only at h H J
  split at h
  ·rename_i b
   unfold k9 at h
   split at h
   ·rename_i t x O
    obtain ⟨K, M⟩ := Ov h hA
    refine ⟨by simp only [H, ye, k9, O]; exact K, fun I => ?_⟩
    rw [J] at I ⊢
    simp only [bI] at I ⊢
    cases V : args.toList with
    | nil => rw [V] at H; cases H
    | cons a0 Y =>
     rw [V] at I H
     cases Y with
     | cons _ _ => cases I
     | nil =>
      simp only [m6] at H
      rw [bind_some] at H; obtain ⟨v, hv, H⟩ := H
      simp at H; subst H
      simp only at I ⊢
      rw [iI (p := HQ mem) hv (L8 fun b g N => hA b (M b g N))]; exact I
   ·rename_i t tx x y O
    obtain ⟨K, M⟩ := Lh h hA
    refine ⟨by simp only [H, ye, k9, O]; exact K, fun I => ?_⟩
    rw [J] at I ⊢
    simp only [bI] at I ⊢
    cases V : args.toList with
    | nil => rw [V] at H; cases H
    | cons a0 Y =>
     rw [V] at I H
     cases Y with
     | nil => cases I
     | cons a1 l1 =>
      cases l1 with
      | cons _ _ => cases I
      | nil =>
       simp only [m6] at H
       rw [bind_some] at H; obtain ⟨v, hv, H⟩ := H
       obtain ⟨l, hl', H⟩ := yc.1 H
       simp only [List.cons.injEq] at H
       obtain ⟨rfl, _⟩ := H
       simp only at I ⊢
       rw [iI (p := y0 mem) hv (v6 fun b N => hA b (M b N))]; exact I
   ·cases h
  ·cases h
 ·cases h
theorem J4 {boxed vars : Bool} {ts : List TypeId} {rs b g : Nat} (h : dX P boxed vars .len ts mem rs [.msw b g] = some out) : b ∈ out.rd := by
 match ts, h with
 | [t], h =>
  have h : (lenOf P t mem (.msw b g)).map (fun n => ({ v := .lit (.int .i64 (n.1 : Int)), rd := n.2 } : dE)) = some out := h
  obtain ⟨n, hn, rfl⟩ := yc.1 h
  unfold lenOf at hn
  split at hn
  ·cases hn
  ·simp only at hn
   obtain ⟨x, _, rfl⟩ := yc.1 hn; simp
  ·cases hn
 | [], h => cases h
 | _ :: _ :: _, h => cases h
theorem Fs {boxed vars : Bool} {ts : List TypeId} {rs b : Nat} {x y : AV} (h : dX P boxed vars .append ts mem rs [x, y] = some out) (H : sB x = some b) : b ∈ out.rd := by
 match ts, h with
 | [t, I], h =>
  have h : gO P boxed vars t I mem rs x y = some out := by
   rcases As H with ⟨g, rfl⟩ | ⟨g, o, n, rfl⟩ <;> exact h
  exact Kf h H
 | [], h => cases x <;> cases y <;> cases h
 | [_], h => cases x <;> cases y <;> cases h
 | _ :: _ :: _ :: _, h => cases x <;> cases y <;> cases h
theorem Pl {C : bQ} {own boxed raw vars : Bool} {o : Oper} {ρ : Operand → Option AV} {rs : Nat} (W : kW o = true → mem'.length = mem.length) (h : FZ P C own false boxed raw vars o ρ mem rs = some out) (hA : Ag out.rd mem mem') :
  FZ P C own false boxed raw vars o ρ mem' rs = some out := by
 unfold FZ at h ⊢
 cases O : bI own ρ mem o.op with
 | true =>
  rw [O] at h; simp only [yl] at h
  obtain ⟨Y, Z⟩ := Pj h hA
  rw [Z O]; exact Y
 | false =>
  rw [O] at h; simp only [yk] at h
  have h' := Pp W h hA
  have : bI own ρ mem' o.op = false := by
   rw [← O]
   unfold LC wS wU wI Bd at h
   split at h <;> rename_i M <;> first | (cases h; done) | (rw [M]; try rfl)
   ·rw [bind_some] at h; obtain ⟨a, V, h⟩ := h
    exact iI (p := Hg mem) V (CY fun b g i c J => hA b (by subst J; exact Jr h))
   ·rw [bind_some] at h; obtain ⟨a, V, h⟩ := h
    rw [bind_some] at h; obtain ⟨x, N, h⟩ := h
    exact iI (p := Hg mem) V (CY fun b g i c J => hA b (by subst J; exact MP h))
   ·rw [bind_some] at h; obtain ⟨x, N, h⟩ := h
    rw [bind_some] at h; obtain ⟨lo, hlo, h⟩ := h
    rw [bind_some] at h; obtain ⟨hi, hhi, h⟩ := h
    rw [bind_some] at h; obtain ⟨mx, hmx, h⟩ := h
    exact iI (p := y0 mem) N (v6 fun b J => hA b (ML h J))
   ·rw [bind_some] at h; obtain ⟨x, N, h⟩ := h
    rw [bind_some] at h; obtain ⟨ix, hix, h⟩ := h
    split at h
    ·exact iI (p := y0 mem) N (v6 fun b J => hA b (M4 h J))
    ·cases h
   ·rename_i c
    obtain ⟨cal, args, ts⟩ := c
    rw [bind_some] at h; obtain ⟨as, H, h⟩ := h
    simp only at h H M ⊢
    simp only [bI]
    split
    ·rename_i x K
     rw [K] at H
     simp only [m6] at H
     rw [bind_some] at H; obtain ⟨v, U, H⟩ := H
     simp at H; subst H
     exact iI (p := HQ mem) U (L8 fun b g J => hA b (by subst J; exact J4 h))
    ·rename_i x y K
     rw [K] at H
     simp only [m6] at H
     rw [bind_some] at H; obtain ⟨v, U, H⟩ := H
     obtain ⟨l, I, H⟩ := yc.1 H
     subst H
     congr 1
     refine iI (p := y0 mem) U (v6 fun b J => hA b ?_)
     rw [bind_some] at I; obtain ⟨u, hu, I⟩ := I
     simp at I; subst I
     exact Fs h J
    ·rfl
  rw [this]; exact h'
theorem Jv {own : Bool} {o : Oper} {ρ ρ' : Operand → Option AV} (h : ∀ x ∈ o.op.operands, ρ' x = ρ x) : bI own ρ' mem o.op = bI own ρ mem o.op := by
 obtain ⟨dst, op, J, K, I, guard⟩ := o
 have ask : ∀ {p : AV → Bool} {x : Operand}, ρ' x = ρ x → lE ρ' p x = lE ρ p x := fun h => by unfold lE; rw [h]
 cases op <;> simp only [Op.operands] at h <;> simp only [bI]
 case load t a => exact ask (h a (by simp))
 case store t a x => exact ask (h a (by simp))
 case slice t x lo hi mx => exact ask (h x (by simp))
 case indexAddr t x ix => exact ask (h x (by simp))
 case call c =>
  obtain ⟨M, args, ts⟩ := c
  simp only [Call.operands] at h
  simp only
  split
  ·rename_i x H
   exact ask (h x (Array.mem_append.2 (.inr (by rw [← Array.mem_toList_iff, H]; simp))))
  ·rename_i x y H
   rw [ask (h x (Array.mem_append.2 (.inr (by rw [← Array.mem_toList_iff, H]; simp))))]
  ·rfl
theorem OT {own tk : Bool} {o : Oper} {ρ ρ' : Operand → Option AV} {rs : Nat} (h : ∀ x ∈ o.op.operands, ρ' x = ρ x) : F4 P own tk o ρ' mem rs = F4 P own tk o ρ mem rs := by
 obtain ⟨dst, op, K, M, J, guard⟩ := o
 cases op <;> simp only [Op.operands] at h <;> simp only [F4, A2, GU]
 case buildSlice t n ps => rw [lQ (fun x I => h x (by simpa using I))]
 case slice t x lo hi mx =>
  rw [h x (by simp), j4 (x := lo) fun y H => h y (by simp [H]), j4 (x := hi) fun y H => h y (by simp [H]), j4 (x := mx) fun y H => h y (by simp [H])]
 case call c =>
  obtain ⟨N, args, ts⟩ := c
  simp only [Call.operands] at h
  rw [mX (xs := args.toList) fun x I => h x (by simp at I ⊢; exact .inr I)]
 all_goals (first | rfl | (simp_all; done))
theorem OC {C : bQ} {own tk boxed raw vars : Bool} {o : Oper} {ρ ρ' : Operand → Option AV} {rs : Nat} (h : ∀ x ∈ o.op.operands, ρ' x = ρ x) : FZ P C own tk boxed raw vars o ρ' mem rs = FZ P C own tk boxed raw vars o ρ mem rs := by
 unfold FZ
 rw [Jv h, OT h, OU h]
end
end Go.Ab
end
section
namespace Go.Ab
variable [b4]
structure jC where
 v : AV
 wr : List (Nat × a9)
 push : aH
 tr : Option Tr
noncomputable def jC.app (e : jC) (dst : Option Tmp) (st : St) : St := { tmps := lS st.tmps dst e.v, mem := aJ st.mem e.wr ++ e.push }
section
variable {P : Program}
inductive jE (P : Program) (C : bQ) (an : lC) (rid : Nat) (ops : Array Oper) (o : Oper) (i rs : Nat) (st : St) : jC → Prop
 | run (out : dE) (hres : d4 o.op = true → w4 st.mem rs = true) (h : FZ P C (a7 rid i an.own) false (a7 rid i an.boxed) (a7 rid i an.raw) (a7 rid i an.vars) o (bY st.tmps) st.mem rs = some out)
   (hg : ∀ j want, o.guard = some (j, want) → ∃ d, (ops[j]?).bind (·.dst) = some d ∧ st.tmps[d]? = some (.lit (.bool want))) :
   jE P C an rid ops o i rs st { v := out.v, wr := out.wr, push := out.push, tr := some (out.tr (d4 o.op) rs i o.op st.mem) }
 | skip (j : Nat) (want : Bool) (d : Nat) (hg : o.guard = some (j, want)) (hd : (ops[j]?).bind (·.dst) = some d)
   (h : st.tmps[d]? = some (.lit (.bool (!want))) ∨ ∃ x, st.tmps[d]? = some (.lit (.tuple x))) : jE P C an rid ops o i rs st { v := .lit undef, wr := [], push := [], tr := none }
theorem Same.eq {st H : St} (h : H.mem = st.mem ∧ ∀ t : Nat, H.tmps[t]? = st.tmps[t]?) : H = st := by
 obtain ⟨t1, m1⟩ := H
 obtain ⟨t, m⟩ := st
 simp only at h
 obtain ⟨rfl, h⟩ := h
 rw [List.ext_getElem? h]
variable {C : bQ} {an : lC} {rid : Nat} {ops : Array Oper}
theorem vA.two {o : Oper} {i rs : Nat} {st K : St} {t : Option Tr} (h : vA P C an false rid ops o i rs st K t) : ∃ e, jE P C an rid ops o i rs st e ∧ e.tr = t ∧ K = e.app o.dst st := by
 cases h with
 | run out N H I U M =>
  obtain rfl := Same.eq H
  exact ⟨_, .run out I U M, rfl, rfl⟩
 | skip N H j J d M O h =>
  obtain rfl := Same.eq H
  exact ⟨_, .skip j J d M O h, rfl, by simp [jC.app, aJ]⟩
theorem jE.one {o : Oper} {i rs : Nat} {st : St} {e : jC} (h : jE P C an rid ops o i rs st e) : vA P C an false rid ops o i rs st (e.app o.dst st) e.tr := by
 cases h with
 | run out H M J => exact .run out st ⟨rfl, fun _ => rfl⟩ H M J
 | skip j I d J K h =>
  have := vA.skip (P := P) (C := C) (an := an) (tk := false) (rid := rid) (ops := ops) (o := o) (i := i) (rs := rs) (st := st) st ⟨rfl, fun _ => rfl⟩ j I d J K h
  simpa [jC.app, aJ] using this
def Nw (ops : Array Oper) (o : Oper) (d : Nat) : Prop := d ∈ o.looksAt ops
def Pm (L : Nat) (all : List Tr) (e : jC) (b : Nat) : Prop := ∃ t, e.tr = some t ∧ (b ∈ (F7 L all t).rd ∨ b ∈ t.wr)
def sH (S F : Nat → Prop) (st st' : St) : Prop := (∀ d : Nat, S d → st'.tmps[d]? = st.tmps[d]?) ∧ (∀ b : Nat, F b → st'.mem[b]? = st.mem[b]?)
theorem JG {v : AV} {q : Nat × Nat × Nat × Nat} (h : nS v = some q) : v = .ptr q.1 q.2.1 q.2.2.1 q.2.2.2 := by
 unfold nS at h
 split at h
 ·cases h; rfl
 ·cases h
theorem Nu {t : TypeId} {mem mem' : aH} {a : AV} {out : dE} (h : i7 P t mem a = some out) (Z : (nS out.v).isSome = true) {b : Nat} (V : out.rd = [b]) (O : (aT mem b).isSome = true) (J : aT mem' b = aT mem b) : i7 P t mem' a = some out := by
 unfold i7 at h ⊢
 cases a with
 | ptr b' g i c =>
  simp only at h ⊢
  rw [bind_some] at h
  obtain ⟨bx, H, h⟩ := h
  unfold box? at H
  split at H
  ·rename_i x hx
   have U : Nat.beq x.gen g = true := by
    cases U : Nat.beq x.gen g with
    | true => rfl
    | false => rw [U] at H; cases H
   rw [U] at H
   have K : x.row.isOwn = false := by
    cases K : x.row.isOwn with
    | false => rfl
    | true => rw [K] at H; cases H
   rw [K] at H
   obtain rfl := ya (show some x = some bx from H)
   split at h
   ·rename_i e cs I
    rw [bind_some] at h
    obtain ⟨ag, W, h⟩ := h
    cases ag with
    | true =>
     simp only [yl] at h
     rw [bind_some] at h
     obtain ⟨n, _, h⟩ := h
     rw [aA] at h
     obtain rfl := (ya h.2)
     simp [nS] at Z
    | false =>
     simp only [yk] at h
     obtain ⟨v, hv, rfl⟩ := yc.1 h
     obtain rfl : b' = b := by simpa using V
     obtain ⟨q, hq⟩ := Option.isSome_iff_exists.1 Z
     have hc1 : aT mem b' = some (x.gen, e, cs.map nS) := by unfold aT gN; rw [hx]; simp only [I]
     rw [hc1] at J
     unfold aT at J
     split at J
     ·rename_i x' Y
      unfold gN at J
      split at J
      ·rename_i e' N M
       obtain ⟨hg', he', hl'⟩ : x'.gen = x.gen ∧ e' = e ∧ N.map nS = cs.map nS := by
        have := ya J
        simp only [Prod.mk.injEq] at this
        exact this
       unfold box?
       rw [Y]
       simp only [hg', U, Row.isOwn, Bool.not_false, yg3, yl, ye, M, he', W, yk]
       have : (N.map nS)[i * e + c]? = some (some q) := by rw [hl', yb1, hv]; simp [hq]
       rw [yb1] at this
       obtain ⟨v', hv', hq'⟩ := yc.1 this
       rw [hv', yg, JG hq', show v = _ from JG hq]
      ·cases J
     ·cases J
   ·rename_i k xs I
    rw [aA] at h; obtain ⟨_, h⟩ := h
    rw [aA] at h; obtain ⟨_, h⟩ := h
    obtain ⟨y, _, rfl⟩ := yc.1 h
    simp [nS] at Z
   ·rename_i β e xs I
    rw [bind_some] at h; obtain ⟨y, _, h⟩ := h
    obtain ⟨u, _, rfl⟩ := yc.1 h
    obtain rfl : b' = b := by simpa using V
    unfold aT gN at O
    rw [hx] at O
    simp only [I] at O
    cases O
   ·cases h
  ·cases H
 | el β p c =>
  simp only at h
  obtain ⟨u, _, rfl⟩ := yc.1 h
  cases V
 | _ => cases h
theorem NL {op : Op} {mem : aH} {v : AV} {rd : List Nat} (h : Mp op mem v rd = true) : (∃ t a, op = .load t a) ∧ (nS v).isSome = true ∧ ∃ b, rd = [b] ∧ (aT mem b).isSome = true := by
 unfold Mp at h
 simp only [yb] at h
 obtain ⟨⟨I, K⟩, H⟩ := h
 refine ⟨?_, ?_, ?_⟩
 ·unfold KE at I
  split at I
  ·exact ⟨_, _, rfl⟩
  ·cases I
 ·split at K
  ·rename_i q J; rw [J]; rfl
  ·cases K
 ·split at H
  ·rename_i b
   refine ⟨b, rfl, ?_⟩
   split at H
   ·rename_i q J; rw [J]; rfl
   ·cases H
  ·cases H
theorem Ow {L : Nat} {all : List Tr} {t : Tr} : (F7 L all t).rd = t.rd ∨ (t.rc = true ∧ ∃ b, t.rd = [b] ∧ K3 L all b = true) := by
 unfold F7
 cases H : (t.rc && (match t.rd with | [b] => K3 L all b | _ => false)) with
 | false => left; rfl
 | true =>
  right
  simp only [yb] at H
  refine ⟨H.1, ?_⟩
  have I := H.2
  split at I
  ·rename_i b J; exact ⟨b, J, I⟩
  ·cases I
theorem gE {L : Nat} {all : List Tr} {t : Tr} : (F7 L all t).i = t.i ∧ (F7 L all t).wr = t.wr ∧ (F7 L all t).push = t.push := by
 unfold F7
 cases (t.rc && (match t.rd with | [b] => K3 L all b | _ => false)) <;> exact ⟨rfl, rfl, rfl⟩
theorem jE.agree {L : Nat} {all : List Tr} {o : Oper} {i rs : Nat} {st J : St} {e : jC} (h : jE P C an rid ops o i rs st e) (hA : sH (Nw ops o) (Pm L all e) st J) (hl : kW o = true → J.mem.length = st.mem.length)
  (hK : ∀ t b, e.tr = some t → K3 L all b = true → t.rc = true → t.rd = [b] → aT J.mem b = aT st.mem b) : ∃ e', jE P C an rid ops o i rs J e' ∧ e'.v = e.v ∧ e'.wr = e.wr ∧ e'.push = e.push := by
 have M : ∀ {j : Nat} {I : Bool} {d : Nat}, o.guard = some (j, I) → (ops[j]?).bind (·.dst) = some d → J.tmps[d]? = st.tmps[d]? := by
  intro j I d Z W
  refine hA.1 d ?_
  unfold Nw Oper.looksAt
  rw [Z]
  refine ys1 _ ?_
  simp [W]
 cases h with
 | run out hres H Z =>
  refine ⟨_, .run out (fun hm => ?_) ?_ (fun j I h => ?_), rfl, rfl, rfl⟩
  ·have := hres hm
   unfold w4 at this ⊢
   rw [hA.2 rs ⟨_, rfl, .inr (by simp [dE.tr, hm])⟩]; exact this
  ·have h1 : FZ P C (a7 rid i an.own) false (a7 rid i an.boxed) (a7 rid i an.raw) (a7 rid i an.vars) o (bY st.tmps) J.mem rs = some out := by
    rcases Ow (L := L) (all := all) (t := out.tr (d4 o.op) rs i o.op st.mem) with hrd | ⟨hrc, b, N, hcst⟩
    ·exact Pl (mem' := J.mem) hl H (fun b N => hA.2 b ⟨_, rfl, .inl (by rw [hrd]; simpa [dE.tr] using N)⟩)
    ·obtain ⟨⟨t, a, V⟩, hp, b', hb', K⟩ := NL (show Mp o.op st.mem out.v out.rd = true from hrc)
     have N : out.rd = [b] := N
     obtain rfl : b = b' := by rw [N] at hb'; simpa using hb'
     have hke := hK _ b rfl hcst hrc N
     have U : ∀ {m : aH}, (aT m b).isSome = true → vT m b = false := by
      intro m hm
      unfold aT at hm
      unfold vT
      split at hm
      ·rename_i x Y
       unfold gN at hm
       split at hm
       ·rename_i e cs hr; simp only [hr]; rfl
       ·cases hm
      ·cases hm
     have hno : bI (a7 rid i an.own) (bY st.tmps) st.mem o.op = false ∧ bI (a7 rid i an.own) (bY st.tmps) J.mem o.op = false := by
      rw [V]
      simp only [bI, lE]
      cases Y : bY st.tmps a with
      | none => exact ⟨rfl, rfl⟩
      | some x =>
       cases x with
       | ptr b2 g2 i2 c2 =>
        have hb2 : b2 = b := by
         unfold FZ at H
         cases how : bI (a7 rid i an.own) (bY st.tmps) st.mem o.op with
         | false =>
          rw [how] at H; simp only [yk] at H
          unfold LC at H
          rw [V] at H
          simp only at H
          rw [bind_some] at H; obtain ⟨x, O, H⟩ := H
          rw [Y] at O; obtain rfl := ya O
          have := Jr H
          rw [N] at this; simpa using this
         | true =>
          rw [how] at H; simp only [yl] at H
          unfold F4 at H
          rw [V] at H
          simp only at H
          rw [bind_some] at H; obtain ⟨x, O, H⟩ := H
          rw [Y] at O; obtain rfl := ya O
          have := (Jc H (fun _ _ => rfl)).2 b2 g2 i2 c2 rfl
          rw [N] at this; simpa using this
        subst hb2
        exact ⟨U K, U (by rw [hke]; exact K)⟩
       | _ => exact ⟨rfl, rfl⟩
     unfold FZ at H ⊢
     rw [hno.1] at H
     rw [hno.2]
     simp only [yk] at H ⊢
     unfold LC at H ⊢
     rw [V] at H ⊢
     simp only at H ⊢
     rw [bind_some] at H ⊢
     obtain ⟨x, Y, H⟩ := H
     exact ⟨x, Y, Nu H hp N K hke⟩
   rw [← h1]
   refine OC fun x Y => ?_
   cases x with
   | tmp t =>
    simp only [bY, CM, aX]
    rw [hA.1 t]
    unfold Nw Oper.looksAt
    exact yq1 _ (List.mem_filterMap.2 ⟨.tmp t, by simpa using Y, rfl⟩)
   | const v => rfl
   | func f => rfl
   | global g => rfl
  ·obtain ⟨d, W, N⟩ := Z j I h
   exact ⟨d, W, by rw [M h W]; exact N⟩
 | skip j I d Z W h =>
  refine ⟨_, .skip j I d Z W ?_, rfl, rfl, rfl⟩
  rw [M Z W]; exact h
noncomputable def cO (D : Nat → Bool) : Nat → List (Oper × jC) → St → St
 | _, [], st => st
 | i, (o, e) :: r, st => cO D (i + 1) r (bif D i then e.app o.dst st else st)
theorem nL {D D' : Nat → Bool} : ∀ {l : List (Oper × jC)} {i : Nat} {st : St}, (∀ k, i ≤ k → k < i + l.length → D k = D' k) → cO D i l st = cO D' i l st
 | [], i, st, _ => rfl
 | (o, e) :: r, i, st, h => by
  simp only [cO]
  rw [h i (yy _) (by simp)]
  exact nL fun k h1 H => h k (by omega) (by simp at H ⊢; omega)
inductive B7 (P : Program) (C : bQ) (an : lC) (rid : Nat) (ops : Array Oper) : Nat → Nat → St → List (Oper × jC) → Prop
 | nil (i rs : Nat) (st : St) : B7 P C an rid ops i rs st []
 | cons (o : Oper) (e : jC) (r : List (Oper × jC)) (i rs : Nat) (st : St) (h : jE P C an rid ops o i rs st e) (hr : B7 P C an rid ops (i + 1) (bif d4 o.op then rs + 1 else rs) (e.app o.dst st) r) :
   B7 P C an rid ops i rs st ((o, e) :: r)
variable {R : Type}
theorem Dn {k : St → List Tr → Option R} {r : R} : ∀ {rest : List Oper} {i rs : Nat} {st : St} {tr : List Tr}, rQ P C an false rid (ops.toList.map (·.dst)) rest i rs st tr k = some r →
  ∃ l, l.map (·.1) = rest ∧ B7 P C an rid ops i rs st l ∧ k (cO (fun _ => true) i l st) ((l.filterMap (·.2.tr)).reverse ++ tr) = some r
 | [], i, rs, st, tr, h => ⟨[], rfl, .nil i rs st, by simpa [rQ, cO] using h⟩
 | o :: rest, i, rs, st, tr, h => by
  obtain ⟨N, t, H, J⟩ := GT h
  obtain ⟨e, O, rfl, rfl⟩ := H.two
  obtain ⟨l, I, M, K⟩ := Dn J
  refine ⟨(o, e) :: l, by simp [I], .cons o e l i rs st O M, ?_⟩
  simp only [cO, yl]
  have : ((((o, e) :: l).filterMap (·.2.tr)).reverse ++ tr) = (l.filterMap (·.2.tr)).reverse ++ (e.tr.toList ++ tr) := by
   cases ht : e.tr with
   | none => simp [List.filterMap_cons, ht]
   | some t => simp [List.filterMap_cons, ht]
  rw [this]; exact K
theorem yY {D : Nat → Bool} : ∀ {l : List (Oper × jC)} {i : Nat} {st : St}, (∀ k, i ≤ k → D k = false) → cO D i l st = st
 | [], i, st, _ => rfl
 | (o, e) :: r, i, st, h => by
  simp only [cO, h i (yy _), yk]
  exact yY fun k hk => h k (by omega)
theorem B7.get : ∀ {l : List (Oper × jC)} {i rs : Nat} {st : St} {j : Nat} {o : Oper} {e : jC}, B7 P C an rid ops i rs st l → l[j]? = some (o, e) → ∃ H, jE P C an rid ops o (i + j) H (cO (fun k => Nat.blt k (i + j)) i l st) e
 | [], i, rs, st, j, o, e, _, h => by simp at h
 | (N, e') :: l, i, rs, st, 0, o, e, I, h => by
  cases I with
  | cons _ _ _ _ _ _ J hr =>
   simp at h; obtain ⟨rfl, rfl⟩ := h
   refine ⟨rs, ?_⟩
   rw [yY (fun k hk => by cases M : Nat.blt k (i + 0) with | false => rfl | true => simp [Nat.blt] at M; omega)]
   exact J
 | (N, e') :: l, i, rs, st, j + 1, o, e, I, h => by
  cases I with
  | cons _ _ _ _ _ _ J hr =>
   obtain ⟨H, K⟩ := hr.get (j := j) (by simpa using h)
   refine ⟨H, ?_⟩
   rw [show i + 1 + j = i + (j + 1) by omega] at K
   simp only [cO]
   have : Nat.blt i (i + (j + 1)) = true := by simp [Nat.blt]
   rw [this]; exact K
theorem MF {m H : aH} {b : Nat} (h : H[b]? = m[b]?) : ∀ {wr : List (Nat × a9)}, (aJ H wr)[b]? = (aJ m wr)[b]? := by
 intro wr
 induction wr generalizing m H with
 | nil => exact h
 | cons q r M =>
  obtain ⟨c, x⟩ := q
  simp only [aJ]
  refine M ?_
  rw [List.getElem?_set, List.getElem?_set]
  by_cases K : c = b
  ·subst K
   simp only [if_true]
   by_cases J : c < m.length
   ·have : c < H.length := by
     rcases yc2 c H.length with I | I
     ·exact I
     ·rw [ya1 I, yf J] at h; cases h
    rw [if_pos J, if_pos this]
   ·have : ¬ c < H.length := by
     intro I
     rw [yf I, ya1 (by omega)] at h; cases h
    rw [if_neg J, if_neg this]
  ·rw [if_neg K, if_neg K]; exact h
theorem La {m : aH} {b : Nat} : ∀ {wr : List (Nat × a9)}, (∀ q ∈ wr, q.1 ≠ b) → (aJ m wr)[b]? = m[b]? := by
 intro wr
 induction wr generalizing m with
 | nil => intro _; rfl
 | cons q r H =>
  obtain ⟨c, x⟩ := q
  intro h
  simp only [aJ]
  rw [H (fun q I => h q (yh _ I)), yp (h (c, x) (ym ..))]
theorem KH {m : aH} {c : Nat} {x : Option a9} : ∀ {wr : List (Nat × a9)}, (∀ q ∈ wr, q.1 ≠ c) → aJ (m.set c x) wr = (aJ m wr).set c x := by
 intro wr
 induction wr generalizing m with
 | nil => intro _; rfl
 | cons q r H =>
  obtain ⟨d, y⟩ := q
  intro h
  simp only [aJ]
  rw [List.set_comm _ _ (fun e => h (d, y) (ym ..) e.symm), H (fun q I => h q (yh _ I))]
theorem Ja {m : aH} {a : List (Nat × a9)} : ∀ {b : List (Nat × a9)}, (∀ q ∈ b, ∀ I ∈ a, q.1 ≠ I.1) → aJ (aJ m a) b = aJ (aJ m b) a := by
 intro b
 induction b generalizing m with
 | nil => intro _; rfl
 | cons q r J =>
  obtain ⟨c, x⟩ := q
  intro h
  simp only [aJ]
  rw [← J (fun q K => h q (yh _ K)), KH (fun I H e => h (c, x) (ym ..) I H e.symm)]
theorem Au {m p : aH} : ∀ {wr : List (Nat × a9)}, (∀ q ∈ wr, q.1 < m.length) → aJ (m ++ p) wr = aJ m wr ++ p := by
 intro wr
 induction wr generalizing m with
 | nil => intro _; rfl
 | cons q r H =>
  obtain ⟨c, x⟩ := q
  intro h
  simp only [aJ]
  rw [List.set_append_left _ _ (h (c, x) (ym ..)), H (fun q I => by simpa using h q (yh _ I))]
structure Ou (L : Nat) (d1 d2 : Option Tmp) (e1 e2 : jC) : Prop where
 dst : ∀ d, d1 = some d → d2 ≠ some d
 wr : ∀ q ∈ e1.wr, ∀ q' ∈ e2.wr, q.1 ≠ q'.1
 push : e1.push = [] ∨ e2.push = []
 low1 : e1.push ≠ [] → ∀ q ∈ e2.wr, q.1 < L
 low2 : e2.push ≠ [] → ∀ q ∈ e1.wr, q.1 < L
theorem Mt {tmps : List AV} {I H : Option Tmp} {J K : AV} (h : ∀ d, I = some d → H ≠ some d) : lS (lS tmps I J) H K = lS (lS tmps H K) I J := by
 cases I with
 | none => rfl
 | some a =>
  cases H with
  | none => rfl
  | some b => simp only [lS, d8]; rw [List.set_comm _ _ (fun e => h a rfl (by rw [e]))]
theorem jC.comm {L : Nat} {W V : Option Tmp} {J I : jC} {st : St} (hm : Ou L W V J I) (Y : L ≤ st.mem.length) : I.app V (J.app W st) = J.app W (I.app V st) := by
 have K : aJ (aJ st.mem J.wr ++ J.push) I.wr ++ I.push = aJ (aJ st.mem I.wr ++ I.push) J.wr ++ J.push := by
  have H := Ja (m := st.mem) (a := J.wr) (b := I.wr) (fun q M Z U e => hm.wr Z U q M e.symm)
  by_cases N : J.push = []
  ·by_cases O : I.push = []
   ·rw [N, O]; simp only [yg1]; exact H
   ·rw [N]; simp only [yg1]
    rw [Au (m := aJ st.mem I.wr) (fun q M => by rw [bT]; exact yh1 (hm.low2 O q M) Y), H]
  ·have O : I.push = [] := hm.push.resolve_left N
   rw [O]; simp only [yg1]
   rw [Au (m := aJ st.mem J.wr) (fun q M => by rw [bT]; exact yh1 (hm.low1 N q M) Y), H]
 simp only [jC.app, K, Mt hm.dst]
end
end Go.Ab
end
section
namespace Go.Ab
variable [b4]
def BV (ops : Array Oper) (D : Nat → Bool) : Prop := ∀ (j : Nat) (o : Oper), ops[j]? = some o → ∀ e ∈ o.after, Region.binds .any e = true → D j = true → D e.on = true
theorem zN {acc : List Nat} : ∀ {N : List Edge} {i : Nat}, (Bc acc N).testBit i = true → ∃ e ∈ N, Region.binds .any e = true ∧ (i = e.on ∨ (acc.getD e.on 0).testBit i = true)
 | [], i, h => by simp [Bc] at h
 | e :: r, i, h => by
  simp only [Bc] at h
  cases H : Region.binds .any e with
  | true =>
   rw [H] at h; simp only [yl, Nat.testBit_or, yy1] at h
   rcases h with (h | h) | h
   ·refine ⟨e, ym .., H, .inl ?_⟩
    rw [Nat.testBit_two_pow] at h
    exact (of_decide_eq_true h).symm
   ·exact ⟨e, ym .., H, .inr h⟩
   ·obtain ⟨I, M, J, K⟩ := zN h
    exact ⟨I, yh _ M, J, K⟩
  | false =>
   rw [H] at h; simp only [yk] at h
   obtain ⟨I, M, J, K⟩ := zN h
   exact ⟨I, yh _ M, J, K⟩
theorem sQ {i : Nat} : ∀ {K : List Edge}, AF i K = true → ∀ e ∈ K, Region.binds .any e = true → e.on < i
 | [], _, e, H, _ => by simp at H
 | x :: r, h, e, H, J => by
  simp only [AF, yb, yy1, yq] at h
  rcases yn1.1 H with rfl | H
  ·rcases h.1 with I | I
   ·rw [J] at I; cases I
   ·simp [Nat.blt] at I; omega
  ·exact sQ h.2 e H J
theorem n4 : ∀ {l : List Oper} {i j : Nat} {o : Oper}, iZ l i = true → l[j]? = some o → AF (i + j) o.after.toList = true
 | [], i, j, o, _, h => by simp at h
 | x :: r, i, 0, o, h, H => by
  simp only [iZ, yb] at h
  simp at H; subst H; exact h.1
 | x :: r, i, j + 1, o, h, H => by
  simp only [iZ, yb] at h
  have := n4 (j := j) h.2 (by simpa using H)
  rw [show i + (j + 1) = i + 1 + j by omega]; exact this
theorem I3 {ops : Array Oper} (hE : iZ ops.toList 0 = true) : ∀ {l : List Oper} {acc : List Nat}, ops.toList.drop acc.length = l → acc.length ≤ ops.size →
  (∀ j i, j < acc.length → (acc.getD j 0).testBit i = true → i < j ∧ ∀ D, BV ops D → D j = true → D i = true) →
  ∀ j i, ((sW l acc).getD j 0).testBit i = true → i < j ∧ j < ops.size ∧ ∀ D, BV ops D → D j = true → D i = true
 | [], acc, J, Y, h => by
  intro j i H
  simp only [sW] at H
  by_cases O : j < acc.length
  ·exact ⟨(h j i O H).1, by omega, (h j i O H).2⟩
  ·rw [yi, ya1 (by omega)] at H; simp at H
 | o :: r, acc, J, Y, h => by
  simp only [sW]
  have W : ops[acc.length]? = some o := by
   have : (ops.toList.drop acc.length)[0]? = some o := by rw [J]; rfl
   rw [yz, ym1, yp1] at this; exact this
  have hlt : acc.length < ops.size := (ym2.1 W).1
  refine I3 hE (l := r) (by rw [yi1, ← List.drop_drop, J]; rfl) (by simp; omega) fun j i O H => ?_
  by_cases M : j < acc.length
  ·rw [yi, yn M, ← yi] at H
   exact h j i M H
  ·have U : j = acc.length := by simp at O; omega
   subst U
   rw [yi, yu (yy _)] at H
   simp only [Nat.sub_self, yq2, Option.getD_some] at H
   obtain ⟨e, Z, I, V⟩ := zN H
   have N := sQ (by have := n4 (j := acc.length) hE (by rw [yp1]; exact W); rwa [yc1] at this) e Z I
   have K : ∀ D, BV ops D → D acc.length = true → D e.on = true := fun D hD J => hD acc.length o W e (by simpa using Z) I J
   rcases V with rfl | V
   ·exact ⟨N, K⟩
   ·obtain ⟨h1, h2⟩ := h e.on i N V
    exact ⟨by omega, fun D hD J => h2 D hD (K D hD J)⟩
theorem oT {ops : Array Oper} (hE : iZ ops.toList 0 = true) {j i : Nat} (h : ((sW ops.toList []).getD j 0).testBit i = true) : i < j ∧ ∀ D, BV ops D → D j = true → D i = true := by
 obtain ⟨H, _, I⟩ := I3 hE (l := ops.toList) (acc := []) (by simp) (by simp) (fun j i J _ => by simp at J) j i h
 exact ⟨H, I⟩
theorem FG : ∀ {n a j : Nat}, a ≤ j → j < a + n → j ∈ oA a n
 | 0, a, j, H, I => by omega
 | n + 1, a, j, H, I => by
  simp only [oA]
  rcases yc2 a j with h | h
  ·exact yh _ (FG (by omega) (by omega))
  ·obtain rfl : j = a := by omega
   exact ym ..
theorem AH {ops : Array Oper} {bs : List Nat} {i : Nat} : ∀ {l : List Nat}, Aq ops bs i l = true → ∀ j ∈ l, c6 bs i j = true ∨ Ar ops i j = true
 | [], _, j, H => by simp at H
 | x :: r, h, j, H => by
  simp only [Aq, yb, yy1] at h
  rcases yn1.1 H with rfl | H
  ·exact h.1
  ·exact AH h.2 j H
theorem pP {ops : Array Oper} {bs : List Nat} : ∀ {n a i j : Nat}, AA ops bs (oA a n) = true → a ≤ i → i < j → j < a + n → c6 bs i j = true ∨ Ar ops i j = true
 | 0, a, i, j, _, K, H, I => by omega
 | n + 1, a, i, j, h, K, H, I => by
  simp only [oA, AA, yb] at h
  rcases yc2 a i with M | J
  ·exact pP h.2 (by omega) H (by omega)
  ·obtain rfl : i = a := by omega
   exact AH h.1 j (FG (by omega) (by omega))
theorem Cm {bs : List Nat} {i : Nat} : ∀ {l : List Oper} {s j : Nat} {o : Oper}, wG bs i l s = true → l[j]? = some o → i = s + j ∨ c6 bs i (s + j) = true ∨ kW o = false
 | [], s, j, o, _, h => by simp at h
 | x :: r, s, 0, o, h, H => by
  simp only [wG, yb, yy1, yq] at h
  simp at H; subst H
  rcases h.1 with (h | h) | h
  ·exact .inl (bJ.1 h)
  ·exact .inr (.inl h)
  ·exact .inr (.inr h)
 | x :: r, s, j + 1, o, h, H => by
  simp only [wG, yb] at h
  have := Cm (j := j) h.2 (by simpa using H)
  rw [show s + (j + 1) = s + 1 + j by omega]; exact this
theorem D5 {ops : Array Oper} {bs : List Nat} : ∀ {l : List Tr}, Ia ops bs l = true → ∀ a ∈ l, a.push = true → wG bs a.i ops.toList 0 = true
 | [], _, a, H, _ => by simp at H
 | x :: r, h, a, H, J => by
  simp only [Ia, yb, yy1, yq] at h
  rcases yn1.1 H with rfl | H
  ·rcases h.1 with I | I
   ·rw [J] at I; cases I
   ·exact I
  ·exact D5 h.2 a H J
structure Ge (bs : List Nat) (L : Nat) (a b : Tr) : Prop where
 push : c6 bs a.i b.i = false → a.push = true → b.push = true → False
 far : c6 bs a.i b.i = false → (∀ x ∈ a.wr, x ∉ b.rd) ∧ (∀ x ∈ a.rd, x ∉ b.wr) ∧ (∀ x ∈ a.wr, x ∉ b.wr) ∧ (a.push = true → (∀ x ∈ b.rd, x < L) ∧ ∀ x ∈ b.wr, x < L) ∧ (b.push = true → (∀ x ∈ a.rd, x < L) ∧ ∀ x ∈ a.wr, x < L)
theorem oU {m : Nat} : ∀ {l : List Nat}, fN m l = true → ∀ b ∈ l, b < m
 | [], _, b, h => by simp at h
 | x :: r, h, b, H => by
  simp only [fN, yb] at h
  rcases yn1.1 H with rfl | H
  ·have := h.1; simp [Nat.blt] at this; omega
  ·exact oU h.2 b H
theorem I0 {bs : List Nat} {L : Nat} {a : Tr} : ∀ {l : List Tr}, Oz bs L a l = true → ∀ b ∈ l, Ge bs L a b
 | [], _, b, h => by simp at h
 | x :: r, h, b, J => by
  simp only [Oz, yb] at h
  rcases yn1.1 J with rfl | J
  ·refine ⟨fun M K N => by have := h.1; rw [M, K, N] at this; simp at this, fun M => ?_⟩
   have := h.1
   rw [M] at this
   simp only [Bool.false_or, yb, yy1, yq] at this
   obtain ⟨⟨⟨⟨⟨_, K⟩, N⟩, U⟩, I⟩, H⟩ := this
   refine ⟨wF K, wF N, wF U, fun O => ?_, fun O => ?_⟩
   ·rcases I with I | I
    ·rw [O] at I; cases I
    ·exact ⟨oU I.1, oU I.2⟩
   ·rcases H with H | H
    ·rw [O] at H; cases H
    ·exact ⟨oU H.1, oU H.2⟩
  ·exact I0 h.2 b J
theorem sU {bs : List Nat} {L : Nat} : ∀ {l : List Tr}, LX bs L l = true → l.Pairwise (Ge bs L)
 | [], _ => .nil
 | a :: r, h => by
  simp only [LX, yb] at h
  exact .cons (I0 h.1) (sU h.2)
theorem l7 {bs : List Nat} {i j : Nat} : c6 bs i j = c6 bs j i := by unfold c6; rw [Bool.or_comm]
theorem Ge.symm {bs : List Nat} {L : Nat} {a b : Tr} (h : Ge bs L a b) : Ge bs L b a :=
 ⟨fun K J M => h.push (by rw [l7]; exact K) M J, fun K => by
  obtain ⟨J, M, O, U, N⟩ := h.far (by rw [l7]; exact K)
  exact ⟨fun x I H => M x H I, fun x I H => J x H I, fun x I H => O x H I, N, U⟩⟩
section
variable {P : Program} {C : bQ} {an : lC} {rid : Nat} {ops : Array Oper}
theorem jE.facts {o : Oper} {i rs : Nat} {st : St} {e : jC} (h : jE P C an rid ops o i rs st e) :
  (∀ q ∈ e.wr, ∃ t, e.tr = some t ∧ q.1 ∈ t.wr) ∧ (e.push ≠ [] → ∃ t, e.tr = some t ∧ t.push = true) ∧ (∀ t, e.tr = some t → t.i = i) := by
 cases h with
 | run out J ho N =>
  refine ⟨fun q H => ⟨_, rfl, ?_⟩, fun I => ⟨_, rfl, ?_⟩, fun t ht => ?_⟩
  ·simp only [dE.tr]
   cases d4 o.op with
   | true => simp only [yl]; exact yh _ (yu2.2 ⟨q, H, rfl⟩)
   | false => simp only [yk]; exact yu2.2 ⟨q, H, rfl⟩
  ·show (match out.push with | [] => false | _ => true) = true
   split
   ·rename_i M; exact absurd M I
   ·rfl
  ·cases ht; rfl
 | skip j K d N hd h => exact ⟨fun q H => by simp at H, fun I => absurd rfl I, fun t ht => by cases ht⟩
structure Dg (S F : Nat → Prop) (L : Nat) (o : Oper) (e : jC) : Prop where
 dst : ∀ d, o.dst = some d → ¬ S d
 wr : ∀ q ∈ e.wr, ¬ F q.1
 push : e.push ≠ [] → ∀ b, F b → b < L
theorem kM (e : jC) (d : Option Tmp) (st : St) : (e.app d st).mem.length = st.mem.length + e.push.length := by simp [jC.app, bT]
theorem sH.symm {S F : Nat → Prop} {st H : St} (h : sH S F st H) : sH S F H st := ⟨fun d J => (h.1 d J).symm, fun b I => (h.2 b I).symm⟩
theorem GW {S F : Nat → Prop} {L : Nat} {o : Oper} {e : jC} {st H : St} (h : sH S F st H) (hn : Dg S F L o e) (O : L ≤ H.mem.length) : sH S F st (e.app o.dst H) := by
 refine ⟨fun d M => ?_, fun b K => ?_⟩
 ·rw [← h.1 d M]
  simp only [jC.app]
  cases J : o.dst with
  | none => rfl
  | some t =>
   simp only [lS, d8]
   exact yp (fun e => hn.dst t J (by rw [e]; exact M))
 ·rw [← h.2 b K]
  simp only [jC.app]
  have I : (aJ H.mem e.wr)[b]? = H.mem[b]? := La fun q U e => hn.wr q U (by rw [e]; exact K)
  by_cases N : e.push = []
  ·rw [N, yg1]; exact I
  ·rw [yn (by rw [bT]; exact yh1 (hn.push N b K) O)]; exact I
theorem KW {S F : Nat → Prop} {d : Option Tmp} {e : jC} {st H : St} (h : sH S F st H) (I : e.push ≠ [] → H.mem.length = st.mem.length) : sH S F (e.app d st) (e.app d H) := by
 refine ⟨fun t ht => ?_, fun b O => ?_⟩
 ·simp only [jC.app]
  cases d with
  | none => exact h.1 t ht
  | some d =>
   simp only [lS, d8]
   have := h.1 t ht
   rw [List.getElem?_set, List.getElem?_set]
   by_cases M : d = t
   ·subst M
    simp only [if_true]
    by_cases I : d < st.tmps.length
    ·have J : d < H.tmps.length := by
      rcases yc2 d H.tmps.length with J | J
      ·exact J
      ·rw [ya1 J, yf I] at this; cases this
     rw [if_pos I, if_pos J]
    ·have J : ¬ d < H.tmps.length := by
      intro J
      rw [yf J, ya1 (Nat.le_of_not_lt I)] at this; cases this
     rw [if_neg I, if_neg J]
   ·rw [if_neg M, if_neg M]; exact this
 ·simp only [jC.app]
  have hs : (aJ H.mem e.wr)[b]? = (aJ st.mem e.wr)[b]? := MF (h.2 b O)
  by_cases N : e.push = []
  ·rw [N, yg1, yg1]; exact hs
  ·have I := I N
   by_cases K : b < st.mem.length
   ·rw [yn (by rw [bT, I]; exact K), yn (by rw [bT]; exact K)]; exact hs
   ·rw [yu (by rw [bT, I]; omega), yu (by rw [bT]; omega), bT, bT, I]
def BC (D : Nat → Bool) (i : Nat) (l : List (Oper × jC)) : Prop := ∀ (k k' : Nat) (q q' : Oper × jC), k < k' → l[k]? = some q → l[k']? = some q' → q.2.push ≠ [] → q'.2.push ≠ [] → D (i + k') = true → D (i + k) = true
theorem BC.tail {D : Nat → Bool} {i : Nat} {q : Oper × jC} {l : List (Oper × jC)} (h : BC D i (q :: l)) : BC D (i + 1) l := fun k H p O hk N I K M J => by
 have := h (k + 1) (H + 1) p O (by omega) (by simpa using N) (by simpa using I) K M (by rw [show i + (H + 1) = i + 1 + H by omega]; exact J)
 rwa [show i + (k + 1) = i + 1 + k by omega] at this
theorem mC {S F : Nat → Prop} {L : Nat} {D D' : Nat → Bool} : ∀ {l : List (Oper × jC)} {i : Nat} {st I : St}, L ≤ st.mem.length → L ≤ I.mem.length →
  (st.mem.length = I.mem.length ∨ ∀ (k : Nat) (q : Oper × jC), l[k]? = some q → q.2.push ≠ [] → D (i + k) = false ∨ D' (i + k) = false) → BC D i l → BC D' i l →
  (∀ k o e, l[k]? = some (o, e) → D (i + k) ≠ D' (i + k) → Dg S F L o e) → sH S F st I → sH S F (cO D i l st) (cO D' i l I)
 | [], i, st, I, _, _, _, _, _, _, h => h
 | (o, e) :: r, i, st, I, hl, K, U, hc, N, hn, h => by
  simp only [cO]
  have V : ∀ k o' e', r[k]? = some (o', e') → D (i + 1 + k) ≠ D' (i + 1 + k) → Dg S F L o' e' := fun k o' e' M hne => hn (k + 1) o' e' (by simpa using M) (by rw [show i + (k + 1) = i + 1 + k by omega]; exact hne)
  have up : ∀ {s : St}, L ≤ s.mem.length → L ≤ (e.app o.dst s).mem.length := fun h => by rw [kM]; omega
  have W : (∀ (k : Nat) (q : Oper × jC), ((o, e) :: r)[k]? = some q → q.2.push ≠ [] → D (i + k) = false ∨ D' (i + k) = false) → ∀ (k : Nat) (q : Oper × jC), r[k]? = some q → q.2.push ≠ [] → D (i + 1 + k) = false ∨ D' (i + 1 + k) = false := by
   intro hh k q M J
   have := hh (k + 1) q (by simpa using M) J
   rwa [show i + (k + 1) = i + 1 + k by omega] at this
  have later : D i = false → e.push ≠ [] → ∀ (k : Nat) (q : Oper × jC), r[k]? = some q → q.2.push ≠ [] → D (i + 1 + k) = false := by
   intro hd J k q M H
   cases Z : D (i + 1 + k) with
   | false => rfl
   | true =>
    have := hc 0 (k + 1) (o, e) q (by omega) rfl (by simpa using M) J H (by rw [show i + (k + 1) = i + 1 + k by omega]; exact Z)
    rw [ym1, hd] at this; cases this
  have Y : D' i = false → e.push ≠ [] → ∀ (k : Nat) (q : Oper × jC), r[k]? = some q → q.2.push ≠ [] → D' (i + 1 + k) = false := by
   intro hd J k q M H
   cases Z : D' (i + 1 + k) with
   | false => rfl
   | true =>
    have := N 0 (k + 1) (o, e) q (by omega) rfl (by simpa using M) J H (by rw [show i + (k + 1) = i + 1 + k by omega]; exact Z)
    rw [ym1, hd] at this; cases this
  cases hD : D i with
  | true =>
   cases O : D' i with
   | true =>
    have hlen : e.push ≠ [] → I.mem.length = st.mem.length := by
     intro J
     rcases U with U | U
     ·exact U.symm
     ·rcases U 0 (o, e) rfl J with h | h
      ·rw [ym1, hD] at h; cases h
      ·rw [ym1, O] at h; cases h
    refine mC (up hl) (up K) (U.imp (fun h => ?_) W) hc.tail N.tail V (KW h hlen)
    simp only [yl, kM, h]
   | false =>
    have hnt := hn 0 o e rfl (by rw [ym1, hD, O]; simp)
    refine mC (up hl) K ?_ hc.tail N.tail V (GW h.symm hnt hl).symm
    by_cases J : e.push = []
    ·refine U.imp (fun h => ?_) W
     simp only [yl, yk, kM, J, List.length_nil, ym1, h]
    ·exact .inr fun k q M H => .inr (Y O J k q M H)
  | false =>
   cases O : D' i with
   | true =>
    have hnt := hn 0 o e rfl (by rw [ym1, hD, O]; simp)
    refine mC hl (up K) ?_ hc.tail N.tail V (GW h hnt K)
    by_cases J : e.push = []
    ·refine U.imp (fun h => ?_) W
     simp only [yl, yk, kM, J, List.length_nil, ym1, h]
    ·exact .inr fun k q M H => .inl (later hD J k q M H)
   | false => exact mC hl K (U.imp id W) hc.tail N.tail V h
theorem LR {D : Nat → Bool} : ∀ {l : List (Oper × jC)} {i : Nat} {st : St}, st.mem.length ≤ (cO D i l st).mem.length
 | [], i, st => yy _
 | (o, e) :: r, i, st => by
  simp only [cO]
  refine ya2 ?_ (LR (l := r))
  cases D i with
  | true => simp only [yl, kM]; omega
  | false => exact yy _
theorem JL {D D' : Nat → Bool} : ∀ {l : List (Oper × jC)} {i : Nat} {st H : St}, H.mem.length = st.mem.length → (∀ k o e, l[k]? = some (o, e) → e.push ≠ [] → D (i + k) = D' (i + k)) → (cO D' i l H).mem.length = (cO D i l st).mem.length
 | [], i, st, H, h, _ => h
 | (o, e) :: r, i, st, H, h, hn => by
  simp only [cO]
  refine JL ?_ (fun k M J K I => by have := hn (k + 1) M J (by simpa using K) I; rwa [show i + (k + 1) = i + 1 + k by omega] at this)
  by_cases I : e.push = []
  ·cases D i <;> cases D' i <;> simp only [yl, yk, kM, I, List.length_nil, ym1] <;> exact h
  ·have := hn 0 o e rfl I
   rw [ym1] at this
   rw [this]
   cases D' i <;> simp only [yl, yk, kM, h]
theorem qR {D : Nat → Bool} : ∀ {a b : List (Oper × jC)} {i : Nat} {st : St}, cO D i (a ++ b) st = cO D (i + a.length) b (cO D i a st)
 | [], b, i, st => rfl
 | (o, e) :: a, b, i, st => by
  simp only [yp2, cO, yg2]
  rw [qR, show i + 1 + a.length = i + (a.length + 1) by omega]
theorem Ec {L : Nat} {D : Nat → Bool} {e : jC} {d : Option Tmp} : ∀ {l : List (Oper × jC)} {i : Nat} {st : St}, L ≤ st.mem.length →
  (∀ k M N, l[k]? = some (M, N) → D (i + k) = true → Ou L d M.dst e N) → cO D i l (e.app d st) = e.app d (cO D i l st)
 | [], i, st, _, _ => rfl
 | (M, N) :: r, i, st, O, hm => by
  simp only [cO]
  have I : ∀ k J K, r[k]? = some (J, K) → D (i + 1 + k) = true → Ou L d J.dst e K := fun k J K V U => hm (k + 1) J K (by simpa using V) (by rw [show i + (k + 1) = i + 1 + k by omega]; exact U)
  cases hD : D i with
  | true =>
   simp only [yl]
   have H := hm 0 M N rfl (by rw [ym1]; exact hD)
   rw [jC.comm H O]
   exact Ec (L := L) (by rw [kM]; omega) I
  | false =>
   simp only [yk]
   exact Ec (L := L) O I
end
end Go.Ab
end
section
namespace Go.Ab
variable [b4]
section
variable {P : Program} {C : bQ} {an : lC} {rid : Nat} {ops : Array Oper} {R : Type}
theorem MU {D : Nat → Bool} {n : Nat} (h : ∃ i, i < n ∧ D i = false) : ∃ i, i < n ∧ D i = false ∧ ∀ j, j < i → D j = true := by
 obtain ⟨i, ⟨I, J⟩, H⟩ := FW (p := fun i => i < n ∧ D i = false) h
 refine ⟨i, I, J, fun j hj => ?_⟩
 cases hD : D j with
 | true => rfl
 | false => have := H j ⟨by omega, hD⟩; omega
def left (D : Nat → Bool) : Nat → Nat
 | 0 => 0
 | n + 1 => left D n + (bif D n then 0 else 1)
theorem Gs {D : Nat → Bool} : ∀ {n : Nat}, left D n = 0 → ∀ i, i < n → D i = true
 | 0, _, i, h => by omega
 | n + 1, h, i, hi => by
  simp only [left] at h
  rcases yc2 i n with H | H
  ·exact Gs (by omega) i H
  ·obtain rfl : i = n := by omega
   cases hD : D i with
   | true => rfl
   | false => rw [hD] at h; simp at h
theorem IN {D D' : Nat → Bool} {i : Nat} (hD : D i = false) (H : D' i = true) (hs : ∀ j, j ≠ i → D' j = D j) : ∀ {n : Nat}, (i < n → left D n = left D' n + 1) ∧ (n ≤ i → left D n = left D' n)
 | 0 => ⟨fun h => by omega, fun _ => rfl⟩
 | n + 1 => by
  obtain ⟨K, J⟩ := IN hD H hs (n := n)
  refine ⟨fun h => ?_, fun h => ?_⟩
  ·simp only [left]
   rcases yc2 i n with I | I
   ·rw [K I, hs n (by omega)]; omega
   ·obtain rfl : i = n := by omega
    rw [J (yy _), hD, H]; rfl
  ·simp only [left]
   rw [J (by omega), hs n (by omega)]
theorem JR {D : Nat → Bool} : ∀ {n : Nat}, 0 < left D n → ∃ i, i < n ∧ D i = false
 | 0, h => by simp [left] at h
 | n + 1, h => by
  simp only [left] at h
  cases hD : D n with
  | false => exact ⟨n, yx2 _, hD⟩
  | true =>
   rw [hD] at h; simp only [yl, ym1] at h
   obtain ⟨i, hi, H⟩ := JR h
   exact ⟨i, by omega, H⟩
theorem MQ (n : Nat) : left (fun _ => false) n = n := by
 induction n with
 | zero => rfl
 | succ n H => simp [left, H]
def jJ (listed : Array Bool) : Nat → Bool := fun i => listed.getD i false
theorem Pq {x y : Option (Nat × Nat × Nat × Nat)} (h : Qj x y = true) : x = y := by
 unfold Qj at h
 split at h
 ·rfl
 ·simp only [yb] at h
  obtain ⟨⟨⟨I, J⟩, H⟩, K⟩ := h
  rw [bJ.1 I, bJ.1 J, bJ.1 H, bJ.1 K]
 ·cases h
theorem LU : ∀ {x y : List (Option (Nat × Nat × Nat × Nat))}, OK x y = true → x = y
 | [], [], _ => rfl
 | x :: xs, y :: ys, h => by
  simp only [OK, yb] at h
  rw [Pq h.1, LU h.2]
 | [], _ :: _, h => by cases h
 | _ :: _, [], h => by cases h
theorem Mv {x y : Option (Nat × Nat × List (Option (Nat × Nat × Nat × Nat)))} (h : If x y = true) : x = y := by
 unfold If at h
 split at h
 ·simp only [yb] at h
  obtain ⟨⟨I, J⟩, H⟩ := h
  rw [bJ.1 I, bJ.1 J, LU H]
 ·cases h
theorem oQ {b : Nat} {V : Option (Nat × Nat × List (Option (Nat × Nat × Nat × Nat)))} : ∀ {wr : List (Nat × a9)} {m : aH}, (∀ q ∈ wr, q.1 = b → gN q.2 = V) → aT m b = V → aT (aJ m wr) b = V
 | [], m, _, h => h
 | (c, x) :: wr, m, H, h => by
  unfold aJ
  refine oQ (fun q K => H q (yh _ K)) ?_
  by_cases I : c = b
  ·subst I
   by_cases J : c < m.length
   ·unfold aT
    rw [yw J]
    exact H (c, x) (ym ..) rfl
   ·rw [List.set_eq_of_length_le (by omega)]; exact h
  ·unfold aT
   rw [yp I]
   exact h
theorem yO {b : Nat} {V : Option (Nat × Nat × List (Option (Nat × Nat × Nat × Nat)))} {e : jC} {d : Option Tmp} {st : St} (I : b < st.mem.length) (J : ∀ q ∈ e.wr, q.1 = b → gN q.2 = V) (h : aT st.mem b = V) : aT (e.app d st).mem b = V := by
 have H := oQ J h
 unfold jC.app
 simp only
 unfold aT at H ⊢
 rw [yn (by rw [bT]; exact I)]
 exact H
theorem mZ {b : Nat} {V : Option (Nat × Nat × List (Option (Nat × Nat × Nat × Nat)))} {D : Nat → Bool} : ∀ {l : List (Oper × jC)} {i : Nat} {st : St}, b < st.mem.length → (∀ p ∈ l, ∀ q ∈ p.2.wr, q.1 = b → gN q.2 = V) → aT st.mem b = V → aT (cO D i l st).mem b = V
 | [], i, st, _, _, h => h
 | (o, e) :: l, i, st, J, H, h => by
  simp only [cO]
  cases hD : D i with
  | true =>
   exact mZ (by rw [yl, kM]; omega) (fun p I => H p (yh _ I)) (yO J (H (o, e) (ym ..)) h)
  | false => exact mZ J (fun p I => H p (yh _ I)) h
theorem Fh {b : Nat} {all : List Tr} (J : ∀ u ∈ all, b ∉ u.wr ∨ u.wk b = true) : ∀ {l : List (Oper × jC)} {i rs : Nat} {st : St}, B7 P C an rid ops i rs st l → (∀ p ∈ l, ∀ t, p.2.tr = some t → t ∈ all) → b < st.mem.length →
  ∀ p ∈ l, ∀ q ∈ p.2.wr, q.1 = b → gN q.2 = aT st.mem b
 | [], i, rs, st, _, _, _, p, K => by cases K
 | (o, e) :: l, i, rs, st, Z, hm, Y, p, K => by
  cases Z with
  | cons _ _ _ _ _ _ h hr =>
  have H : ∀ q ∈ e.wr, q.1 = b → gN q.2 = aT st.mem b := by
   intro q N I
   cases h with
   | run out V ho hg =>
    rcases J _ (hm (o, _) (ym ..) _ rfl) with M | M
    ·exfalso
     apply M
     have : b ∈ out.wr.map (·.1) := yu2.2 ⟨q, N, I⟩
     simp only [dE.tr]
     cases d4 o.op with
     | true => exact yh _ this
     | false => exact this
    ·have M : oM st.mem out.wr b = true := M
     unfold oM at M
     have := yr1.1 M q N
     simp only [yy1, yq] at this
     rcases this with U | U
     ·exact absurd I (fun e => by rw [e, yp3] at U; cases U)
     ·exact Mv U
   | skip j W d hg hd h => cases N
  rcases yn1.1 K with rfl | K
  ·exact H
  ·intro q N I
   have O : b < (e.app o.dst st).mem.length := by rw [kM]; omega
   rw [Fh J hr (fun p K => hm p (yh _ K)) O p K q N I]
   exact yO Y H rfl
structure Gj (P : Program) (C : bQ) (an : lC) (rid : Nat) (ops : Array Oper) (L : Nat) (st0 : St) (l : List (Oper × jC)) (all : List Tr) : Prop where
 map : l.map (·.1) = ops.toList
 len : st0.mem.length = L
 one : ∀ (i j : Nat) (o o' : Oper) (e e' : jC), i ≠ j → l[i]? = some (o, e) → l[j]? = some (o', e') → e.push ≠ [] → e'.push ≠ [] → c6 (sW ops.toList []) i j = true
 step : ∀ (j : Nat) (o : Oper) (e : jC), l[j]? = some (o, e) → ∃ rs, jE P C an rid ops o j rs (cO (fun k => Nat.blt k j) 0 l st0) e
 mate : ∀ (i j : Nat) (o o' : Oper) (e e' : jC), i ≠ j → l[i]? = some (o, e) → l[j]? = some (o', e') → c6 (sW ops.toList []) i j = false →
  Ou L o.dst o'.dst e e' ∧ Dg (Nw ops o) (Pm L all e) L o' e' ∧ (e'.push ≠ [] → kW o = false)
 back : iZ ops.toList 0 = true
 const : ∀ b, K3 L all b = true → ∀ D, aT (cO D 0 l st0).mem b = aT st0.mem b
theorem MS {st0 : St} {l : List (Oper × jC)} {rs L : Nat} (hmap : l.map (·.1) = ops.toList) (hc : B7 P C an rid ops 0 rs st0 l) (hlen : st0.mem.length = L) (hd : HV ops L ((l.filterMap (·.2.tr)).reverse) = true) :
  Gj P C an rid ops L st0 l ((l.filterMap (·.2.tr)).reverse) := by
 generalize hall : (l.filterMap (·.2.tr)).reverse = all at hd ⊢
 unfold HV at hd
 simp only [yb] at hd
 obtain ⟨⟨⟨hback, htrs⟩, hpush⟩, Z⟩ := hd
 have J : ∀ (j : Nat) (o : Oper) (e : jC), l[j]? = some (o, e) → ∃ rs, jE P C an rid ops o j rs (cO (fun k => Nat.blt k j) 0 l st0) e := by
  intro j o e V
  have := hc.get V
  simpa using this
 have hop : ∀ (j : Nat) (o : Oper) (e : jC), l[j]? = some (o, e) → ops[j]? = some o := by
  intro j o e V
  have : (l.map (·.1))[j]? = some o := by rw [yb1, V]; rfl
  rw [hmap, yp1] at this; exact this
 have hpw := sU htrs
 rw [List.pairwise_map] at hpw
 conv at hpw => arg 2; rw [← hall]
 rw [List.pairwise_reverse, List.pairwise_filterMap] at hpw
 have hrel : ∀ (i j : Nat) (o N : Oper) (e M : jC), i ≠ j → l[i]? = some (o, e) → l[j]? = some (N, M) → ∀ t I, e.tr = some t → M.tr = some I → Ge (sW ops.toList []) L (F7 L all t) (F7 L all I) := by
  intro i j o N e M K hi V t I ht H
  obtain ⟨hil, hi2⟩ := yd.1 hi
  obtain ⟨hjl, hj2⟩ := yd.1 V
  rw [List.pairwise_iff_getElem] at hpw
  rcases Nat.lt_or_gt_of_ne K with h | h
  ·exact (hpw i j hil hjl h t (by rw [hi2]; exact ht) I (by rw [hj2]; exact H)).symm
  ·exact hpw j i hjl hil h I (by rw [hj2]; exact H) t (by rw [hi2]; exact ht)
 have hone2 : ∀ (i j : Nat) (o N : Oper) (e M : jC), i ≠ j → l[i]? = some (o, e) → l[j]? = some (N, M) → c6 (sW ops.toList []) i j = false → e.push = [] ∨ M.push = [] := by
  intro i j o N e M K hi V Y
  by_cases h1 : e.push = []
  ·exact .inl h1
  ·by_cases h2 : M.push = []
   ·exact .inr h2
   ·obtain ⟨rs1, hs1⟩ := J i o e hi
    obtain ⟨rs2, hs2⟩ := J j N M V
    obtain ⟨t, ht, hp⟩ := hs1.facts.2.1 h1
    obtain ⟨I, H, hp'⟩ := hs2.facts.2.1 h2
    exact ((hrel i j o N e M K hi V t I ht H).push (by rw [gE.1, gE.1, hs1.facts.2.2 t ht, hs2.facts.2.2 I H]; exact Y) (by rw [gE.2.2]; exact hp) (by rw [gE.2.2]; exact hp')).elim
 refine ⟨hmap, hlen, ?_, J, ?_, hback, ?_⟩
 ·intro i j o N e M K hi V h1 h2
  cases ho : c6 (sW ops.toList []) i j with
  | true => rfl
  | false =>
   rcases hone2 i j o N e M K hi V ho with h | h
   ·exact absurd h h1
   ·exact absurd h h2
 ·intro i j o N e M K hi V Y
  obtain ⟨rs1, hs1⟩ := J i o e hi
  obtain ⟨rs2, hs2⟩ := J j N M V
  obtain ⟨f1, f2, f3⟩ := hs1.facts
  obtain ⟨g1, g2, g3⟩ := hs2.facts
  have hoi := hop i o e hi
  have hoj := hop j N M V
  have hin : i < ops.size := (ym2.1 hoi).1
  have hjn : j < ops.size := (ym2.1 hoj).1
  have O : ∀ t I, e.tr = some t → M.tr = some I → _ := fun t I ht H => (hrel i j o N e M K hi V t I ht H).far (by rw [gE.1, gE.1, f3 t ht, g3 I H]; exact Y)
  -- slots
  have hsl : (∀ d, o.dst = some d → d ∉ N.looksAt ops) ∧ (∀ d, o.dst = some d → N.dst ≠ some d) ∧ (∀ d, N.dst = some d → d ∉ o.looksAt ops) := by
   rcases Nat.lt_or_gt_of_ne K with h | h
   ·rcases pP Z (Nat.zero_le _) h (by omega) with h' | h'
    ·rw [Y] at h'; cases h'
    ·unfold Ar at h'
     rw [hoi, hoj] at h'
     exact Oper.apart_spec h'
   ·rcases pP Z (Nat.zero_le _) h (by omega) with h' | h'
    ·rw [l7, Y] at h'; cases h'
    ·unfold Ar at h'
     rw [hoi, hoj] at h'
     obtain ⟨a1, a2, a3⟩ := Oper.apart_spec h'
     exact ⟨a3, fun d hd hd' => a2 d hd' hd, a1⟩
  refine ⟨⟨hsl.2.1, fun q hq q' hq' => ?_, hone2 i j o N e M K hi V Y, fun hp q hq => ?_, fun hp q hq => ?_⟩, ⟨fun d hd hS => hsl.2.2 d hd hS, fun q hq hF => ?_, fun hp b hF => ?_⟩, fun hp => ?_⟩
  ·obtain ⟨t, ht, hm⟩ := f1 q hq
   obtain ⟨I, H, hm'⟩ := g1 q' hq'
   intro he
   exact (O t I ht H).2.2.1 _ (by rw [gE.2.1]; exact hm) (by rw [gE.2.1, he]; exact hm')
  ·obtain ⟨t, ht, W⟩ := f2 hp
   obtain ⟨I, H, hm'⟩ := g1 q hq
   exact ((O t I ht H).2.2.2.1 (by rw [gE.2.2]; exact W)).2 _ (by rw [gE.2.1]; exact hm')
  ·obtain ⟨I, H, W⟩ := g2 hp
   obtain ⟨t, ht, hm⟩ := f1 q hq
   exact ((O t I ht H).2.2.2.2 (by rw [gE.2.2]; exact W)).2 _ (by rw [gE.2.1]; exact hm)
  ·obtain ⟨I, H, hm'⟩ := g1 q hq
   obtain ⟨t, ht, U⟩ := hF
   obtain ⟨k1, k2, k3, _⟩ := O t I ht H
   rcases U with U | U
   ·exact k2 _ U (by rw [gE.2.1]; exact hm')
   ·exact k3 _ (by rw [gE.2.1]; exact U) (by rw [gE.2.1]; exact hm')
  ·obtain ⟨I, H, W⟩ := g2 hp
   obtain ⟨t, ht, U⟩ := hF
   obtain ⟨k1, k2⟩ := (O t I ht H).2.2.2.2 (by rw [gE.2.2]; exact W)
   rcases U with U | U
   ·exact k1 _ U
   ·exact k2 _ (by rw [gE.2.1]; exact U)
  ·obtain ⟨I, H, W⟩ := g2 hp
   have hmem : I ∈ all := by
    rw [← hall, List.mem_reverse, List.mem_filterMap]
    exact ⟨(N, M), yt V, H⟩
   have hnc := D5 hpush I hmem W
   rw [g3 I H] at hnc
   have := Cm (j := i) hnc (by rw [yp1]; exact hoi)
   rw [yc1] at this
   rcases this with h | h | h
   ·exact absurd h.symm K
   ·rw [l7, Y] at h; cases h
   ·exact h
 ·intro b U D
  unfold K3 at U
  simp only [yb] at U
  have hbL : b < st0.mem.length := by
   have := U.1; simp [Nat.blt] at this; omega
  have hall2 : ∀ u ∈ all, b ∉ u.wr ∨ u.wk b = true := by
   intro u hu
   have := yr1.1 U.2 u hu
   simp only [yy1, yq] at this
   rcases this with h | h
   ·left; intro hm; rw [oP.2 hm] at h; cases h
   ·exact .inr h
  exact mZ hbL (Fh hall2 hc (fun p hp t ht => by rw [← hall, List.mem_reverse, List.mem_filterMap]; exact ⟨p, hp, ht⟩) hbL) rfl
theorem Ie {H : Array Bool} {i j : Nat} (I : i < H.size) : (H.setIfInBounds i true).getD j false = (if j = i then true else H.getD j false) := by
 by_cases h : j = i
 ·subst h
  rw [if_pos rfl, yj, Array.getElem?_setIfInBounds_self_of_lt I]; rfl
 ·rw [if_neg h, yj, Array.getElem?_setIfInBounds_ne (fun e => h e.symm), ← yj]
theorem MH (hC : jN P C) {L : Nat} {J : St} {l : List (Oper × jC)} {all : List Tr} (hF : Gj P C an rid ops L J l all) {G0 : Gh} {w0 : World} {old : List (Option Bool)} {Q : Exit → Act → World → Prop}
  (hQ : ∀ G w a, SR G w (cO (fun _ => true) 0 l J) a → CS G0 w0 old G w → Q .normal a w) :
  ∀ (fuel : Nat) (H : Array Bool) (G : Gh) (w : World) (a : Act), H.size = ops.size → BV ops (jJ H) → left (jJ H) ops.size = fuel → SR G w (cO (jJ H) 0 l J) a → CS G0 w0 old G w →
   wpAny P .any ops Q fuel H a w := by
 have hll : l.length = ops.size := by rw [← ye1 (f := (·.1)) (as := l), hF.map]; simp
 intro fuel
 induction fuel with
 | zero =>
  intro H G w a hsz hcl V hS hI
  have hall := Gs V
  refine ⟨?_, hQ G w a ?_ hI⟩
  ·apply List.eq_nil_iff_forall_not_mem.2
   intro j hj
   obtain ⟨h1, o, ho, _⟩ := mem_ready.1 hj
   have hjn := (ym2.1 ho).1
   have := hall j hjn
   unfold jJ at this
   rw [yj, yl1 (by omega)] at this h1
   simp only [Option.getD_some] at this h1
   rw [this] at h1; cases h1
  ·rw [← nL (D := jJ H) (D' := fun _ => true) (fun k _ M => hall k (by omega))]; exact hS
 | succ fuel ih =>
  intro H G w a hsz hcl V hS hI
  have Y : ∀ i, i < ops.size → H.getD i true = jJ H i := by
   intro i hi
   unfold jJ
   rw [yj, yj, yl1 (by omega)]; rfl
  refine ⟨fun hnil => ?_, fun i hi => ?_⟩
  ·obtain ⟨i, Z, hid, hmin⟩ := MU (JR (D := jJ H) (n := ops.size) (by omega))
   have : i ∈ Region.ready .any ops H := by
    refine mem_ready.2 ⟨by rw [Y i Z]; exact hid, ops[i], yl1 Z, fun e he U => ?_⟩
    refine hmin e.on ?_
    have := n4 (j := i) hF.back (by rw [yp1]; exact yl1 Z)
    rw [yc1] at this
    exact sQ this e (by simpa using he) U
   rw [hnil] at this; cases this
  ·obtain ⟨h1, o, ho, hpre⟩ := mem_ready.1 hi
   have Z := (ym2.1 ho).1
   rw [Y i Z] at h1
   obtain ⟨e, hle⟩ : ∃ e, l[i]? = some (o, e) := by
    have hi2 : i < l.length := by omega
    have : (l.map (·.1))[i]? = some o := by rw [hF.map, yp1]; exact ho
    rw [yb1, yf hi2] at this
    exact ⟨l[i].2, by rw [yf hi2]; simp at this; rw [← this]⟩
   let D := jJ H
   let D1 := jJ (H.setIfInBounds i true)
   have hD1 : ∀ j, D1 j = if j = i then true else D j := fun j => Ie (by omega)
   have hD1i : D1 i = true := by rw [hD1, if_pos rfl]
   have O : ∀ j, j ≠ i → D1 j = D j := fun j hj => by rw [hD1, if_neg hj]
   have hcl1 : BV ops D1 := by
    intro j o' hj e' he U hd
    by_cases hji : j = i
    ·subst hji
     rw [ho] at hj; obtain rfl := ya hj
     have := hpre e' he U
     rw [hD1]; split
     ·rfl
     ·exact this
    ·rw [O j hji] at hd
     have := hcl j o' hj e' he U hd
     rw [hD1]; split
     ·rfl
     ·exact this
   -- what differs stands apart
   have hun1 : ∀ k, D k = true → i < k → c6 (sW ops.toList []) i k = false := by
    intro k M hik
    cases I : c6 (sW ops.toList []) i k with
    | false => rfl
    | true =>
     unfold c6 at I
     rw [yy1] at I
     rcases I with I | I
     ·have := (oT hF.back I).2 D hcl M
      rw [show D i = false from h1] at this; cases this
     ·have := (oT hF.back I).1; omega
   have hun2 : ∀ k, D k = false → k < i → c6 (sW ops.toList []) i k = false := by
    intro k M hik
    cases I : c6 (sW ops.toList []) i k with
    | false => rfl
    | true =>
     unfold c6 at I
     rw [yy1] at I
     rcases I with I | I
     ·have := (oT hF.back I).1; omega
     ·have := (oT hF.back I).2 D1 hcl1 hD1i
      rw [O k (by omega), M] at this; cases this
   have hdiff : ∀ k, (Nat.blt k i) ≠ D k → c6 (sW ops.toList []) i k = false ∧ k ≠ i := by
    intro k K
    rcases Nat.lt_trichotomy k i with h | h | h
    ·have U : Nat.blt k i = true := by simp [Nat.blt]; omega
     rw [U] at K
     have M : D k = false := by cases hh : D k with | false => rfl | true => rw [hh] at K; exact absurd rfl K
     exact ⟨hun2 k M h, by omega⟩
    ·subst h
     have U : Nat.blt k k = false := by cases U : Nat.blt k k with | false => rfl | true => simp [Nat.blt] at U; omega
     rw [U, show D k = false from h1] at K; exact absurd rfl K
    ·have U : Nat.blt k i = false := by cases U : Nat.blt k i with | false => rfl | true => simp [Nat.blt] at U; omega
     rw [U] at K
     have M : D k = true := by cases hh : D k with | true => rfl | false => rw [hh] at K; exact absurd rfl K
     exact ⟨hun1 k M h, by omega⟩
   obtain ⟨rs, hstep⟩ := hF.step i o e hle
   have hagree : sH (Nw ops o) (Pm L all e) (cO (fun k => Nat.blt k i) 0 l J) (cO D 0 l J) := by
    have hcl2 : ∀ D2 : Nat → Bool, (∀ k k', k < k' → c6 (sW ops.toList []) k k' = true → D2 k' = true → D2 k = true) → BC D2 0 l := by
     intro D2 h2 k k' q q' hkk M hk' hp hp' hd
     rw [yc1] at hd ⊢
     exact h2 k k' hkk (hF.one k k' q.1 q'.1 q.2 q'.2 (by omega) M hk' hp hp') hd
    refine mC (L := L) (Nat.le_of_eq hF.len.symm) (Nat.le_of_eq hF.len.symm) (.inl rfl) (hcl2 _ fun k k' hkk _ hd => ?_) (hcl2 _ fun k k' hkk I hd => ?_) (fun k o' e' M K => ?_) ⟨fun _ _ => rfl, fun _ _ => rfl⟩
    ·simp only [Nat.blt, Nat.ble_eq] at hd ⊢; omega
    ·unfold c6 at I
     rw [yy1] at I
     rcases I with I | I
     ·exact (oT hF.back I).2 D hcl hd
     ·have := (oT hF.back I).1; omega
    rw [yc1] at K
    obtain ⟨hu, hki⟩ := hdiff k K
    exact (hF.mate i k o o' e e' (fun h => hki h.symm) hle M hu).2.1
   have hlens : kW o = true → (cO D 0 l J).mem.length = (cO (fun k => Nat.blt k i) 0 l J).mem.length := by
    intro hcall
    refine JL rfl (fun k o' e' M hp => ?_)
    rw [yc1]
    by_cases heq : Nat.blt k i = D k
    ·exact heq
    ·obtain ⟨hu, hki⟩ := hdiff k heq
     have := (hF.mate i k o o' e e' (fun h => hki h.symm) hle M hu).2.2 hp
     rw [this] at hcall; cases hcall
   obtain ⟨e1, hstep1, hv1, hw1, hp1⟩ := hstep.agree hagree hlens (fun t b ht hc _ _ => (hF.const b hc D).trans (hF.const b hc _).symm)
   have W := hstep1.one
   have happ : e1.app o.dst (cO D 0 l J) = e.app o.dst (cO D 0 l J) := by unfold jC.app; rw [hv1, hw1, hp1]
   rw [happ] at W
   -- and afterwards
   have hafter : e.app o.dst (cO D 0 l J) = cO D1 0 l J := by
    have hil : i < l.length := by omega
    have hel : l[i] = (o, e) := by
     rw [yf hil] at hle; exact ya hle
    have N : l = l.take i ++ (o, e) :: l.drop (i + 1) := by
     rw [← hel, ← List.drop_eq_getElem_cons hil, List.take_append_drop]
    have htl : (l.take i).length = i := by simp; omega
    generalize U : l.drop (i + 1) = b at N
    generalize ha : l.take i = pre at N htl
    rw [N, qR, qR, yc1, htl]
    have hpre' : cO D1 0 pre J = cO D 0 pre J := nL (fun k _ M => by rw [yc1, htl] at M; exact O k (by omega))
    rw [hpre']
    simp only [cO]
    rw [show D i = false from h1, hD1i]
    simp only [yl, yk]
    rw [nL (D := D1) (D' := D) (l := b) (fun k M _ => O k (by omega))]
    refine (Ec (L := L) (ya2 (Nat.le_of_eq hF.len.symm) LR) (fun k o' e' M hd => ?_)).symm
    ·have hk' : l[i + 1 + k]? = some (o', e') := by
      rw [← U, yz] at M; exact M
     exact (hF.mate i (i + 1 + k) o o' e e' (by omega) hle hk' (hun1 _ hd (by omega))).1
   refine W.sound hC ho hS _ _ (fun G' w' a' hg he hS' => ?_)
   rw [hafter] at hS'
   refine ih (H.setIfInBounds i true) G' w' a' (by simpa using hsz) hcl1 ?_ hS' (hI.step hg he)
   have := (IN (D := D) (D' := D1) h1 hD1i O (n := ops.size)).1 Z
   have h2 : left D ops.size = fuel + 1 := V
   show left D1 ops.size = fuel
   omega
theorem AO (hm : P.follows .mixedOrders = true) (hC : jN P C) (an : lC) : C4 P C an := by
 intro R rid ops st k r G0 w0 old G w a Q h hS hI Y
 unfold nE at h
 obtain ⟨l, K, Z, H⟩ := Dn h
 rw [yg1] at H
 rw [aA] at H
 obtain ⟨J, H⟩ := H
 simp only [Bool.not_true, Bool.false_or] at J
 have hF := MS (L := st.mem.length + oD ops.toList) K Z (by simp) J
 have I : Ev G w w.drew := Ev.drew G w
 have N : SR G w.drew { st with mem := st.mem ++ List.replicate (oD ops.toList) none } a := by
  have M := hS.widen (oD ops.toList)
  exact ⟨M.memr.ev I (.inl rfl) (fun B _ => rfl), M.len, fun j x hx => (M.tmps j x hx).imp id (fun h => h.mono (c8.refl G) I), M.defers⟩
 refine wp_region_any hm ?_
 refine MH hC hF (G0 := G0) (w0 := w0) (old := old) (fun G' W V O U => Y _ G' W V H O.trim U) ops.size (Array.replicate ops.size false) G w.drew a (by simp) ?_ ?_ ?_ (hI.step (c8.refl G) I)
 ·intro j o ho e he hb J
  unfold jJ at J
  rw [yj, yw2] at J
  split at J <;> simp at J
 ·have : left (jJ (Array.replicate ops.size false)) ops.size = left (fun _ => false) ops.size := by
   congr 1
   funext i
   unfold jJ
   rw [yj, yw2]
   split <;> rfl
  rw [this, MQ]
 ·rw [yY]
  ·exact N
  ·intro k _
   unfold jJ
   rw [yj, yw2]
   split <;> rfl
end
end Go.Ab
end
