/- The evaluator. -/
import Derived.Test.YtdlbbdbbpoggfaaLib3
set_option linter.unusedVariables false
set_option linter.unusedSectionVars false
set_option linter.unusedSimpArgs false
section
namespace Go.Ab
variable [b4]
structure SR (G : Gh) (w : World) (st : St) (a : Act) : Prop where
 memr : aF G w st.mem
 len : st.tmps.length = a.tmps.size
 tmps : ∀ (j : Nat) (x : AV), st.tmps[j]? = some x → eL x = true ∨ VR G w x (a.tmps.getD j undef)
 defers : a.defers = []
structure CR (G0 : Gh) (w0 : World) (old : List (Option Bool)) (G : Gh) (w : World) : Prop where
 ev : Ev G0 w0 w
 mine : G.mine = G0.mine
 prot : ∀ β B o, G0.prot β B o → G.prot β B o
 new : ∀ β B o, G.prot β B o → G0.prot β B o ∨ G0.mine B
 keep : ∀ (j : Nat) (k : Bool), old[j]? = some (some k) → ∀ L, G0.loc j 0 = some L → G.loc j 0 = some L
theorem CR.refl (G : Gh) (w : World) (old : List (Option Bool)) : CR G w old G w := ⟨Ev.refl G w, rfl, fun _ _ _ h => h, fun _ _ _ h => .inl h, fun _ _ _ _ h => h⟩
theorem CR.step {G0 : Gh} {w0 : World} {old : List (Option Bool)} {G M : Gh} {w J : World} (h : CR G0 w0 old G w) (I : c8 G M) (H : Ev G w J) : CR G0 w0 old M J where
 ev :=
  ⟨ya2 h.ev.size H.size, H.out.trans h.ev.out, H.os.trans h.ev.os, fun B K hm => (H.away B (yh1 K h.ev.size) (by rw [h.mine]; exact hm)).trans (h.ev.away B K hm),
   fun B o x => H.some B o (h.ev.some B o x), fun β B o x => (H.prot β B o (h.prot _ _ _ x)).trans (h.ev.prot β B o x), fun B o x => (H.fz B o (h.ev.some B o x)).trans (h.ev.fz B o x), H.tape.trans h.ev.tape⟩
 mine := I.mine.trans h.mine
 prot β B o x := I.prot _ _ _ (h.prot _ _ _ x)
 new β B o x := (I.new _ _ _ x).elim (h.new _ _ _) (fun y => .inr (by rw [← h.mine]; exact y))
 keep j k hj L hL := I.loc _ _ _ (h.keep j k hj L hL)
theorem Mg {tmps : List AV} {t : Nat} {v : AV} (h : CV tmps t = some v) : tmps[t]? = some v ∧ eL v = false := by
 unfold CV at h
 rw [aX] at h
 rw [bind_some] at h; obtain ⟨u, I, h⟩ := h
 cases H : eL u with
 | true => rw [H] at h; simp at h
 | false => rw [H] at h; simp only [yk] at h; obtain rfl := ya h; exact ⟨I, H⟩
section
variable {P : Program}
theorem SR.get {G : Gh} {w : World} {st : St} {a : Act} (h : SR G w st a) {t : Nat} {v : AV} (ht : CV st.tmps t = some v) : VR G w v (a.tmps.getD t undef) := by
 obtain ⟨I, J⟩ := Mg ht
 rcases h.tmps t v I with H | H
 ·rw [J] at H; cases H
 ·exact H
theorem K4 {G : Gh} {w : World} {mem : aH} (hM : aF G w mem) {g : Nat} {q : Int × Int} (h : b4.tab g = some q) : VR G w (.el true (.agg [.lit (.int .i64 q.1), .lit (.int .i64 q.2)]) 0) (.pointer (some ⟨g, 0, none⟩)) := by
 obtain ⟨⟨I, K⟩, M, J⟩ := hM.glob g q h
 refine .el true _ 0 g 0 (fun j => if j = 0 then .int .i64 q.1 else .int .i64 q.2) (fun j y H => ?_) (fun j y H => ?_)
 ·match j, H with
  | 0, H => exact ⟨I, K⟩
  | 1, H => exact ⟨M, J⟩
 ·match j, H with
  | 0, H => obtain rfl := ya H; exact .lit _ rfl
  | 1, H => obtain rfl := ya H; exact .lit _ rfl
theorem SR.eval {G : Gh} {w : World} {st : St} {a : Act} (h : SR G w st a) : Nn G w (bW st.tmps) a := by
 intro x v H
 cases x with
 | tmp t => exact h.get H
 | const c => exact kX H
 | func f =>
  obtain rfl := ya H
  exact .fn (.func f) [] [] #[] #[] rfl rfl (fun j y I => by simp at I) (fun j y I => by simp at I)
 | global g =>
  simp only [bW] at H
  obtain ⟨q, J, rfl⟩ := yc.1 H
  exact K4 h.memr J
theorem J4 (a : Act) (dst : Option Tmp) (v : Value) : (a.put dst v).defers = a.defers ∧ (a.put dst v).tmps.size = a.tmps.size := by
 cases dst <;> simp [Act.put]
theorem SR.put {G J : Gh} {w K : World} {st : St} {a : Act} {dst : Option Tmp} {v : AV} {cv : Value} {mem' : aH} (h : SR G w st a) (O : c8 G J) (N : Ev G w K) (U : VR J K v cv) (hM : aF J K mem') :
  SR J K { tmps := lZ st.tmps dst v, mem := mem' } (a.put dst cv) := by
 refine ⟨hM, ?_, fun j x H => ?_, by rw [(J4 a dst cv).1]; exact h.defers⟩
 ·rw [(J4 a dst cv).2, ← h.len]
  cases dst <;> simp [lZ, d5]
 ·cases dst with
  | none => exact (h.tmps j x H).imp id (fun h => h.mono O N)
  | some d =>
   simp only [lZ, d5] at H
   simp only [Act.put]
   by_cases M : j = d
   ·subst M
    have I : j < st.tmps.length := by have := (yd.1 H).1; simpa using this
    rw [yw I] at H
    obtain rfl := ya H
    right
    rw [yj, Array.getElem?_setIfInBounds_self_of_lt (by rw [← h.len]; exact I)]
    exact U
   ·rw [yp (fun e => M e.symm)] at H
    refine (h.tmps j x H).imp id (fun h => ?_)
    rw [yj, Array.getElem?_setIfInBounds_ne (fun e => M e.symm), ← yj]
    exact h.mono O N
theorem aF.congr {G : Gh} {w : World} {mem mem' : aH} (hM : aF G w mem) (h : ∀ (b : Nat) (x : a9), mem'[b]? = some (some x) ↔ mem[b]? = some (some x)) : aF G w mem' :=
 ⟨fun b x I => hM.box b x ((h b x).1 I), fun b g I => hM.unset b g (fun x H => I x ((h b x).2 H)), fun b x g I => hM.gens b x g ((h b x).1 I),
  fun b J x x' L O B I H => hM.apart b J x x' L O B ((h b x).1 I) ((h J x').1 H), fun b J x x' B i c B' I k K H => hM.inA b J x x' B i c B' ((h b x).1 I) k K ((h J x').1 H),
  fun b J x x' B C i c N M B' I k K H => hM.inB b J x x' B C i c N M B' ((h b x).1 I) k K ((h J x').1 H), hM.own, hM.lab, hM.away, hM.glob⟩
theorem Ji : ∀ {m : aH} {b : Nat} {x : a9}, (trim m)[b]? = some (some x) ↔ m[b]? = some (some x)
 | [], b, x => by simp [trim]
 | y :: m, b, x => by
  have I := fun b => Ji (m := m) (b := b) (x := x)
  simp only [trim]
  split
  ·rename_i hn
   rw [hn] at I
   have H : ∀ b : Nat, m[b]? ≠ some (some x) := fun b J => by have := (I b).2 J; simp at this
   cases y with
   | none =>
    simp only [LI, yl]
    cases b with
    | zero => simp
    | succ b => simp [H b]
   | some y =>
    simp only [LI, yk]
    cases b with
    | zero => simp
    | succ b => simp [H b]
  ·rename_i z hz
   cases b with
   | zero => simp
   | succ b => simp only [yd1]; exact I b
theorem Mu {mem : aH} {rs : Nat} : x9 mem rs = true ↔ mem[rs]? = some none := by
 unfold x9
 split
 ·rename_i h; simp [h]
 ·rename_i h; constructor
  ·intro H; cases H
  ·intro H; exact absurd H h
inductive sP (P : Program) (C : bQ) (an : lA) (tk : Bool) (rid : Nat) (ops : Array Oper) (o : Oper) (i rs : Nat) (st : St) : St → Option Tr → Prop
 | run (out : dD) (st1 : St) (hst : st1.mem = st.mem ∧ ∀ t : Nat, st1.tmps[t]? = st.tmps[t]?) (hres : dY o.op = true → x9 st.mem rs = true) (h : F9 P C (a7 rid i an.own) tk (a7 rid i an.boxed) (a7 rid i an.raw) (a7 rid i an.vars) o (bW st1.tmps) st1.mem rs = some out)
   (hg : ∀ j want, o.guard = some (j, want) → ∃ d, (ops[j]?).bind (·.dst) = some d ∧ st.tmps[d]? = some (.lit (.bool want))) :
   sP P C an tk rid ops o i rs st { tmps := lZ st1.tmps o.dst out.v, mem := out.apply st1.mem } (some (out.tr (dY o.op) rs i o.op st1.mem))
 | skip (st1 : St) (hst : st1.mem = st.mem ∧ ∀ t : Nat, st1.tmps[t]? = st.tmps[t]?) (j : Nat) (want : Bool) (d : Nat) (hg : o.guard = some (j, want)) (hd : (ops[j]?).bind (·.dst) = some d)
   (h : st.tmps[d]? = some (.lit (.bool (!want))) ∨ ∃ x, st.tmps[d]? = some (.lit (.tuple x))) : sP P C an tk rid ops o i rs st { tmps := lZ st1.tmps o.dst (.lit undef), mem := st1.mem } none
theorem Nt {tmps : List AV} {d : Nat} {v : AV} (h : tmps[d]? = some v) : ∀ t : Nat, (tmps.set d v)[t]? = tmps[t]? := by
 intro t
 by_cases e : t = d
 ·subst e; rw [yw (yd.1 h).1, h]
 ·rw [yp (fun x => e x.symm)]
variable {R : Type}
theorem JS {h : Option Int} {v : AV} {k : AV → Option R} {r : R} (H : yS h v k = some r) : k v = some r := by
 unfold yS at H
 split at H
 ·exact H
 ·split at H
  ·rw [aA] at H
   rw [decide_eq_true_eq] at H
   rw [H.1]; exact H.2
  ·rename_i x _ b
   cases I : decide (x = 0) with
   | true =>
    rw [I] at H; simp only [yl] at H
    rw [aA] at H
    cases b with
    | false => exact H.2
    | true => simp at H
   | false =>
    rw [I] at H; simp only [yk] at H
    rw [aA] at H
    cases b with
    | true => exact H.2
    | false => simp at H
  ·exact H
theorem Gx {C : bQ} {an : lA} {tk : Bool} {rid : Nat} {ops : Array Oper} {o : Oper} {rest : List Oper} {i rs : Nat} {st : St} {tr : List Tr} {k : St → List Tr → Option R} {r : R}
  (h : rN P C an tk rid (ops.toList.map (·.dst)) (o :: rest) i rs st tr k = some r) :
  ∃ J t, sP P C an tk rid ops o i rs st J t ∧ rN P C an tk rid (ops.toList.map (·.dst)) rest (i + 1) (bif dY o.op then rs + 1 else rs) J (t.toList ++ tr) k = some r := by
 simp only [rN, aX, d5] at h
 have hds : ∀ {j : Nat} {d : Nat}, (ops.toList.map (·.dst))[j]? = some (some d) → (ops[j]?).bind (·.dst) = some d := by
  intro j d hj
  rw [yb1] at hj
  obtain ⟨x, hx, Z⟩ := yc.1 hj
  rw [yp1] at hx
  rw [hx]; exact Z
 have N : ∀ (I : St), (I.mem = st.mem ∧ ∀ t : Nat, I.tmps[t]? = st.tmps[t]?) → (∀ j H, o.guard = some (j, H) → ∃ d, (ops[j]?).bind (·.dst) = some d ∧ st.tmps[d]? = some (.lit (.bool H))) →
   guardB (bif dY o.op then x9 I.mem rs else true) ((F9 P C (a7 rid i an.own) tk (a7 rid i an.boxed) (a7 rid i an.raw) (a7 rid i an.vars) o (bW I.tmps) I.mem rs).bind fun out =>
    yS (By rid i an.hint) out.v fun v => rN P C an tk rid (ops.toList.map (·.dst)) rest (i + 1) (bif dY o.op then rs + 1 else rs) { tmps := lZ I.tmps o.dst v, mem := out.apply I.mem } (out.tr (dY o.op) rs i o.op I.mem :: tr) k) = some r →
   ∃ J t, sP P C an tk rid ops o i rs st J t ∧ rN P C an tk rid (ops.toList.map (·.dst)) rest (i + 1) (bif dY o.op then rs + 1 else rs) J (t.toList ++ tr) k = some r := by
  intro I V U h
  rw [aA] at h; obtain ⟨hr, h⟩ := h
  rw [bind_some] at h; obtain ⟨out, hout, h⟩ := h
  have h := JS h
  refine ⟨_, _, .run out I V (fun hm => ?_) hout U, by simpa using h⟩
  rw [hm] at hr; rw [← V.1]; exact hr
 have K : ∀ (I : St), (I.mem = st.mem ∧ ∀ t : Nat, I.tmps[t]? = st.tmps[t]?) → ∀ (j : Nat) (H : Bool) (d : Nat), o.guard = some (j, H) → (ops[j]?).bind (·.dst) = some d → (st.tmps[d]? = some (.lit (.bool (!H))) ∨ ∃ x, st.tmps[d]? = some (.lit (.tuple x))) →
   rN P C an tk rid (ops.toList.map (·.dst)) rest (i + 1) (bif dY o.op then rs + 1 else rs) { tmps := lZ I.tmps o.dst (.lit undef), mem := I.mem } tr k = some r →
   ∃ J t, sP P C an tk rid ops o i rs st J t ∧ rN P C an tk rid (ops.toList.map (·.dst)) rest (i + 1) (bif dY o.op then rs + 1 else rs) J (t.toList ++ tr) k = some r := by
  intro I V j H d U Z hh h
  exact ⟨_, _, .skip I V j H d U Z hh, by simpa using h⟩
 have M : ∀ {d : Nat} {v : AV}, st.tmps[d]? = some v → (({ st with tmps := st.tmps.set d v } : St).mem = st.mem ∧ ∀ t : Nat, ({ st with tmps := st.tmps.set d v } : St).tmps[t]? = st.tmps[t]?) := fun h => ⟨rfl, Nt h⟩
 split at h
 ·rename_i U
  exact N st ⟨rfl, fun _ => rfl⟩ (fun j H h => by rw [U] at h; cases h) h
 ·rename_i j H U
  split at h
  ·rename_i d Z
   have O := hds Z
   split at h
   ·rename_i b W
    cases b with
    | true =>
     simp only [yl] at h
     cases H with
     | true => simp only [yl, yk] at h; exact N _ (M W) (fun j' Y h' => by rw [U] at h'; obtain ⟨rfl, rfl⟩ := Prod.mk.inj (ya h'); exact ⟨d, O, W⟩) h
     | false => simp only [yl, yk] at h; exact K _ (M W) j false d U O (.inl W) h
    | false =>
     simp only [yk] at h
     cases H with
     | true => simp only [yl, yk] at h; exact K _ (M W) j true d U O (.inl W) h
     | false => simp only [yl, yk] at h; exact N _ (M W) (fun j' Y h' => by rw [U] at h'; obtain ⟨rfl, rfl⟩ := Prod.mk.inj (ya h'); exact ⟨d, O, W⟩) h
   ·rename_i x hx
    exact K st ⟨rfl, fun _ => rfl⟩ j H d U O (.inr ⟨x, hx⟩) h
   ·simp at h
  ·simp at h
theorem SR.same {G : Gh} {w : World} {st H : St} {a : Act} (h : SR G w st a) (I : H.mem = st.mem ∧ ∀ t : Nat, H.tmps[t]? = st.tmps[t]?) : SR G w H a := by
 refine ⟨by rw [I.1]; exact h.memr, ?_, fun j x M => h.tmps j x (by rw [← I.2]; exact M), h.defers⟩
 rw [← h.len]
 rcases Nat.lt_trichotomy H.tmps.length st.tmps.length with J | K | J
 ·have := I.2 H.tmps.length
  rw [ya1 (yy _), yf J] at this; cases this
 ·exact K
 ·have := I.2 st.tmps.length
  rw [ya1 (yy _), yf J] at this; cases this
theorem SR.lit {G : Gh} {w : World} {st : St} {a : Act} (h : SR G w st a) {d : Nat} {v : Value} (I : st.tmps[d]? = some (.lit v)) : a.tmps[d]? = some v := by
 have J : d < a.tmps.size := by rw [← h.len]; exact (yd.1 I).1
 rcases h.tmps d _ I with H | H
 ·simp [eL] at H
 ·have := H.lit_inv
  rw [yj, yl1 J] at this
  rw [yl1 J]; simpa using this
theorem sP.sound {C : bQ} (hC : jK P C) {an : lA} {tk : Bool} {rid : Nat} {ops : Array Oper} {o : Oper} {i rs : Nat} {st W : St} {t : Option Tr} {G : Gh} {w : World} {a : Act} (hi : ops[i]? = some o)
  (h : sP P C an tk rid ops o i rs st W t) (hS : SR G w st a) (K : Act → World → Prop) (Q : Exit → Act → World → Prop) (hK : ∀ Z V a', c8 G Z → Ev G w V → SR Z V W a' → K a' V) : wpOp P ops Q i K a w := by
 unfold wpOp
 simp only [hi]
 cases h with
 | run out st1 J O ho hg =>
  have H := hS.same J
  have hw : Region.wanted o (yielded ops a.tmps) = true := by
   unfold Region.wanted
   cases hgo : o.guard with
   | none => rfl
   | some q =>
    obtain ⟨j, I⟩ := q
    obtain ⟨d, Y, M⟩ := hg j I hgo
    have := hS.lit M
    simp [yielded, Y, this]
  rw [if_pos hw]
  left
  exact Mn H.memr (fun hm => by rw [J.1]; exact Mu.1 (O hm)) H.eval (fun hc hf ha hcv => Jd hC H.memr hc hf ha hcv) ho K Q
   (fun Z V cv hv U N hM' => hK Z V _ U N (H.put U N hv hM'))
 | skip st1 J j I d hg Y h =>
  have H := hS.same J
  have hw : Region.wanted o (yielded ops a.tmps) = false := by
   unfold Region.wanted
   simp only [hg]
   rcases h with M | ⟨x, M⟩
   ·have := hS.lit M
    cases I <;> simp [yielded, Y, this]
   ·have := hS.lit M
    simp [yielded, Y, this]
  rw [hw]
  simp only [yi2, if_false]
  exact hK G w _ (c8.refl G) (Ev.refl G w) (H.put (c8.refl G) (Ev.refl G w) (.lit _ rfl) H.memr)
theorem Eh {C : bQ} (hC : jK P C) {an : lA} {tk : Bool} {rid : Nat} {ops : Array Oper} {k : St → List Tr → Option R} {r : R} {Q : Exit → Act → World → Prop} {G0 : Gh} {w0 : World} {old : List (Option Bool)} :
  ∀ {rest : List Oper} {i rs : Nat} {st : St} {tr : List Tr} {G : Gh} {w : World} {a : Act}, ops.toList.drop i = rest → rN P C an tk rid (ops.toList.map (·.dst)) rest i rs st tr k = some r → SR G w st a → CR G0 w0 old G w →
   (∀ H J U I V, k H J = some r → SR U I H V → CR G0 w0 old U I → Q .normal V I) → wpOps P ops Q (List.range' i rest.length) a w
 | [], i, rs, st, tr, G, w, a, K, h, hS, hI, M => by
  simp only [rN] at h
  exact M st tr G w a h hS hI
 | o :: rest, i, rs, st, tr, G, w, a, K, h, hS, hI, M => by
  obtain ⟨H, t, O, Z⟩ := Gx h
  have Y : ops[i]? = some o := by
   have : (ops.toList.drop i)[0]? = some o := by rw [K]; rfl
   rw [yz, ym1, yp1] at this; exact this
  rw [yg2, List.range'_succ, wpOps_cons]
  refine O.sound hC Y hS _ _ (fun U I V hg W N => ?_)
  exact Eh hC (by rw [← List.drop_drop, K]; rfl) Z N (hI.step hg W) M
end
end Go.Ab
end
section
namespace Go.Ab
variable [b4]
theorem Ey {p : Nat → Prop} (h : ∃ n, p n) : ∃ n, p n ∧ ∀ m, p m → n ≤ m := by
 obtain ⟨n, hn⟩ := h
 induction n using Nat.strongRecOn with
 | _ n J =>
  by_cases hm : ∃ m, m < n ∧ p m
  ·obtain ⟨m, H, hm⟩ := hm; exact J m H hm
  ·exact ⟨n, hn, fun m I => Nat.le_of_not_lt fun H => hm ⟨m, H, I⟩⟩
section
variable {P : Program}
theorem HX {c : Code} {Q : Exit → Act → World → Prop} {a : Act} {w : World} (I : Nat → Act → World → Prop) {n : Nat} (V : I n a w)
  (J : ∀ n a w, I n a w → c.wp P (Exit.then (fun O M => ∃ m, m < n ∧ I m O M) Q) a w) : (Code.loop c).wp P Q a w := by
 refine wp_loop (fun a w => ∃ n, I n a w) (fun a w => Classical.epsilon fun n => I n a w ∧ ∀ m, I m a w → n ≤ m) ⟨n, V⟩ fun a w hI => ?_
 have K := Classical.epsilon_spec (Ey hI)
 refine wp_mono (J _ a w K.1) fun e O M U => ?_
 cases e <;> try exact U
 obtain ⟨m, N, hm⟩ := U
 have H := Classical.epsilon_spec (Ey (p := fun n => I n O M) ⟨m, hm⟩)
 exact ⟨⟨m, hm⟩, Nat.lt_of_le_of_lt (H.2 m hm) N⟩
def Ex.to : Ex → Exit
 | .normal => .normal
 | .exit id => .exit id
 | .ret => .ret
theorem sQ : ∀ {live : List Nat} {vs : List AV} {i j : Nat}, (bH live vs i)[j]? = (vs[j]?).map fun v => bif eZ (i + j) live then v else .goneV
 | live, [], i, j => by simp [bH]
 | live, v :: r, i, 0 => by simp [bH]
 | live, v :: r, i, j + 1 => by simp only [bH, yd1]; rw [sQ (vs := r), show i + 1 + j = i + (j + 1) by omega]
theorem Kn {G0 : Gh} {w0 : World} {keep : Bool} {old : List (Option Bool)} {live : List Nat} {st K : St} {G : Gh} {w : World} {a : Act} (h : Jb keep old live st = some K) (hS : SR G w st a) (hI : CR G0 w0 old G w) :
  ∃ O, SR O w K a ∧ CR G0 w0 old O w := by
 unfold Jb at h
 obtain ⟨q, hq, rfl⟩ := yc.1 h
 obtain ⟨f, O, G2, hr, hm, N, U, hM, J, I, hk, _, _⟩ := sF hS.memr hq
 refine ⟨G2, ⟨hM, ?_, fun j x Z => ?_, hS.defers⟩, ⟨hI.ev, hm.trans hI.mine, fun β B o h => by rw [N]; exact hI.prot β B o h, fun β B o h => hI.new β B o (by rw [N] at h; exact h), fun j k W L hL => by obtain ⟨y, _, _, h⟩ := hk j k W; exact h L (hI.keep j k W L hL)⟩⟩
 ·simp only [hr, eX, ye1]
  rw [← hS.len]
  have : ∀ (vs : List AV) i, (bH live vs i).length = vs.length := by
   intro vs; induction vs with
   | nil => intro i; rfl
   | cons v r ih => intro i; simp [bH, ih]
  exact this _ _
 ·simp only [hr] at Z
  obtain ⟨y, Y, rfl⟩ := qK Z
  have H := I j y
  rw [sQ] at Y H
  obtain ⟨z, V, rfl⟩ := yc.1 Y
  rw [V] at H
  cases M : eZ (0 + j) live with
  | false => left; rfl
  | true =>
   simp only [yl]
   rcases hS.tmps j z V with h | h
   ·left
    unfold eL at h
    split at h
    ·rfl
    ·cases h
   ·right
    rw [M] at H
    exact (H _ rfl h).ren (l := true) J (fun β B o _ hb => by rw [N, ← U]; exact hb) (fun _ => rfl)
theorem Hm {G : Gh} {w : World} {mem mem' : aH} {s : AV} {n c : Nat} (hM : aF G w mem) (h : BS mem s n c = some mem') : ∃ J, c8 G J ∧ aF J w mem' := by
 unfold BS at h
 split at h
 ·rename_i b g
  rw [bind_some] at h; obtain ⟨M, H, h⟩ := h
  split at h
  ·rename_i e xs hs I
   obtain ⟨r, hr, rfl⟩ := yc.1 h
   have K : mem[b]? = some (some M) := by
    unfold boxO? at H
    split at H
    ·rename_i x K
     cases N : Nat.beq x.gen g && x.row.isOwn with
     | true => rw [N] at H; obtain rfl := ya H; exact K
     | false => rw [N] at H; cases H
    ·cases H
   have O : 0 < M.row.len := by
    rw [I]
    unfold nH at hr
    rw [bind_some] at hr; obtain ⟨p, U, _⟩ := hr
    have := (yd.1 U).1
    show 0 < xs.length
    omega
   obtain ⟨o, V, hm⟩ := (hM.box b M K).loc
   cases o with
   | none => have := hm.1; omega
   | some B =>
    obtain ⟨J, v, _, _, ht, _⟩ := sC hM K I ⟨_, V, rfl⟩ hr
    exact ⟨J, ht.gle, ht.memr⟩
  ·cases h
 ·cases h
theorem AD {w : World} {tmps : List AV} : ∀ {l : List (Operand × Nat × Operand × Nat)} {G : Gh} {mem mem' : aH}, aF G w mem → BJ tmps l mem = some mem' → ∃ O, c8 G O ∧ aF O w mem'
 | [], G, mem, mem', hM, h => by obtain rfl := ya h; exact ⟨G, c8.refl G, hM⟩
 | q :: l, G, mem, mem', hM, h => by
  simp only [BJ] at h
  rw [bind_some] at h; obtain ⟨I, H, h⟩ := h
  have : ∃ s n c, BS mem s n c = some I := by
   unfold LC at H
   rw [bind_some] at H; obtain ⟨p, _, H⟩ := H
   rw [bind_some] at H; obtain ⟨s, _, H⟩ := H
   rw [bind_some] at H; obtain ⟨v, _, H⟩ := H
   split at H
   ·rw [aA] at H; exact ⟨_, _, _, H.2⟩
   ·cases H
  obtain ⟨s, n, c, ht⟩ := this
  obtain ⟨G1, M, N⟩ := Hm hM ht
  obtain ⟨U, K, J⟩ := AD N h
  exact ⟨U, M.trans K, J⟩
theorem KB {G0 : Gh} {w0 : World} {old : List (Option Bool)} {an : lA} {rid : Nat} {st M : St} {G : Gh} {w : World} {a : Act} (h : Gj an rid old st = some M) (hS : SR G w st a) (hI : CR G0 w0 old G w) :
  ∃ I, SR I w M a ∧ CR G0 w0 old I w := by
 unfold Gj at h
 split at h
 ·obtain rfl := ya h; exact ⟨G, hS, hI⟩
 ·rename_i q hq
  rw [bind_some] at h; obtain ⟨W, K, h⟩ := h
  obtain ⟨mem2, N, rfl⟩ := yc.1 h
  obtain ⟨I, hG⟩ := Cg hS.memr K
  obtain ⟨G2, J, V⟩ := AD hG.memr N
  have U : CR G0 w0 old I w := ⟨hI.ev, hG.mine.trans hI.mine, fun β B o h => by rw [hG.prot]; exact hI.prot β B o h, fun β B o h => hI.new β B o (by rw [hG.prot] at h; exact h), fun j k Z L hL => by
   rw [hG.loc j 0 (yd.1 Z).1]; exact hI.keep j k Z L hL⟩
  refine ⟨G2, ⟨V, ?_, fun j x hx => ?_, hS.defers⟩, U.step J (Ev.refl I w)⟩
  ·have : ∀ (vs : List AV) i, (bH q.1 vs i).length = vs.length := by
    intro vs; induction vs with
    | nil => intro i; rfl
    | cons v r ih => intro i; simp [bH, ih]
   rw [← hS.len]; exact this _ _
  ·have H := hG.vals j x
   rw [sQ] at hx H
   obtain ⟨z, Y, rfl⟩ := yc.1 hx
   rw [Y] at H
   cases O : eZ (0 + j) q.1 with
   | false => left; rfl
   | true =>
    simp only [yl]
    rcases hS.tmps j z Y with h | h
    ·exact .inl h
    ·rw [O] at H
     exact .inr ((H _ rfl h).mono J (Ev.refl I w))
variable {R : Type}
def C1 (P : Program) (C : bQ) (an : lA) : Prop := ∀ (R : Type) (rid : Nat) (ops : Array Oper) (st : St) (k : St → Option R) (r : R) (G0 : Gh) (w0 : World) (old : List (Option Bool)) (G : Gh) (w : World) (a : Act) (Q : Exit → Act → World → Prop),
 nC P C an rid ops true st k = some r → SR G w st a → CR G0 w0 old G w → (∀ st' G' w' a', k st' = some r → SR G' w' st' a' → CR G0 w0 old G' w' → Q .normal a' w') → (Code.region rid ops true).wp P Q a w
theorem CM {m : aH} {n b : Nat} {x : a9} : (m ++ List.replicate n none)[b]? = some (some x) ↔ m[b]? = some (some x) := by
 by_cases H : b < m.length
 ·rw [yn H]
 ·rw [yu (by omega), yw1]
  constructor
  ·intro h; split at h <;> simp at h
  ·intro h; rw [ya1 (by omega)] at h; cases h
theorem SR.widen {G : Gh} {w : World} {st : St} {a : Act} (h : SR G w st a) (n : Nat) : SR G w { st with mem := st.mem ++ List.replicate n none } a :=
 ⟨h.memr.congr fun b x => CM, h.len, h.tmps, h.defers⟩
theorem SR.trim {G : Gh} {w : World} {st : St} {a : Act} (h : SR G w st a) : SR G w { st with mem := trim st.mem } a :=
 ⟨h.memr.congr fun b x => Ji, h.len, h.tmps, h.defers⟩
theorem Ij {C : bQ} (hC : jK P C) {an : lA} (hD : C1 P C an) {rid : Nat} {ops : Array Oper} {H : Bool} {st : St} {k : St → Option R} {r : R} {G0 : Gh} {w0 : World} {old : List (Option Bool)} {G : Gh} {w : World} {a : Act}
  {Q : Exit → Act → World → Prop} (h : nC P C an rid ops H st k = some r) (hS : SR G w st a) (hI : CR G0 w0 old G w) (V : ∀ I M K N, k I = some r → SR M K I N → CR G0 w0 old M K → Q .normal N K) :
  (Code.region rid ops H).wp P Q a w := by
 cases H with
 | true => exact hD R rid ops st k r G0 w0 old G w a Q h hS hI V
 | false =>
  unfold nC at h
  apply wp_region
  have := Eh (Q := Q) (G0 := G0) (w0 := w0) (old := old) hC (ops := ops) (rest := ops.toList) (i := 0) (by simp) h (hS.widen _) hI (fun I W M K N J O U => by
   rw [aA] at J
   exact V _ M K N J.2 O.trim U)
  rw [List.range_eq_range']
  simpa using this
theorem JP {α : Type} {a b : Option α} {r : α} (h : amb a b = some r) : a = some r ∧ b = some r := by
 unfold amb at h
 split at h
 ·rename_i e; exact ⟨h, e ▸ h⟩
 ·cases h
theorem VR.unk_inv {G : Gh} {w : World} {v : Value} (h : VR G w (.imm true (.lit (.bool false))) v) : ∃ b, v = .bool b := by
 cases h with
 | imm _ _ _ _ hs => cases hs
 | unkB b => exact ⟨b, rfl⟩
theorem nF {C : bQ} (hC : jK P C) {an : lA} (hD : C1 P C an) {n : Nat} {old : List (Option Bool)} {G0 : Gh} {w0 : World} : ∀ (c : Code) {M : Nat} {st : St} {k : Ex → St → Option R} {r : R} {G : Gh} {w : World} {a : Act} {Q : Exit → Act → World → Prop},
  eH P C an n old c M st k = some r → SR G w st a → CR G0 w0 old G w → (∀ e H O U V, k e H = some r → SR O U H V → CR G0 w0 old O U → Q e.to V U) → c.wp P Q a w := by
 intro c
 induction c with
 | skip => intro M st k r G w a Q h hS hI K; exact wp_skip (K .normal st G w a h hS hI)
 | ret => intro M st k r G w a Q h hS hI K; exact wp_ret (K .ret st G w a h hS hI)
 | exit id => intro M st k r G w a Q h hS hI K; exact wp_exit (K (.exit id) st G w a h hS hI)
 | seq x y W Y =>
  intro M st k r G w a Q h hS hI K
  simp only [eH] at h
  refine wp_seq (W h hS hI fun e H O U V N I J => ?_)
  cases e with
  | normal => exact Y N I J K
  | exit id => exact K (.exit id) H O U V N I J
  | ret => exact K .ret H O U V N I J
 | cond c x y W Y =>
  intro M st k r G w a Q h hS hI K
  simp only [eH] at h
  split at h
  ·rename_i t ht
   have hc := (hS.eval c _ ht).lit_inv
   cases t with
   | true => exact wp_cond_true hc (W h hS hI K)
   | false => exact wp_cond_false hc (Y h hS hI K)
  ·rename_i ht
   obtain ⟨b, hc⟩ := (hS.eval c _ ht).unk_inv
   obtain ⟨h1, h2⟩ := JP h
   cases b with
   | true => exact wp_cond_true hc (W h1 hS hI K)
   | false => exact wp_cond_false hc (Y h2 hS hI K)
  ·simp at h
 | block id c ih =>
  intro M st k r G w a Q h hS hI K
  simp only [eH] at h
  refine wp_block (ih h hS hI fun e H O U V N I J => ?_)
  cases e with
  | normal => exact K .normal H O U V N I J
  | ret => exact K .ret H O U V N I J
  | exit j =>
   simp only at N
   cases hj : Nat.beq j id with
   | true =>
    rw [hj] at N; simp only [yl] at N
    obtain rfl := bJ.1 hj
    simp only [Ex.to, Exit.inBlock, if_true]
    exact K .normal H O U V N I J
   | false =>
    rw [hj] at N; simp only [yk] at N
    have hne : ¬ j = id := fun h => by rw [bJ.2 h] at hj; cases hj
    simp only [Ex.to, Exit.inBlock, hne, if_false]
    exact K (.exit j) H O U V N I J
 | loop c ih =>
  intro M st k r G w a Q h hS hI K
  simp only [eH] at h
  rw [bind_some] at h; obtain ⟨live, hl, h⟩ := h
  refine HX (fun m a w => ∃ st G, yK (eZ M an.keep) old live (fun st k => eH P C an n old c M st k) m st k = some r ∧ SR G w st a ∧ CR G0 w0 old G w) ⟨st, G, h, hS, hI⟩ ?_
  rintro m a w ⟨st, G, h, hS, hI⟩
  cases m with
  | zero => simp [yK] at h
  | succ m =>
   simp only [yK] at h
   rw [bind_some] at h; obtain ⟨st1, h1, h⟩ := h
   obtain ⟨G1, Z, hI1⟩ := Kn h1 hS hI
   refine ih h Z hI1 fun e H O U V N I J => ?_
   cases e with
   | normal => exact ⟨m, yx2 _, H, O, N, I, J⟩
   | exit id => exact K (.exit id) H O U V N I J
   | ret => exact K .ret H O U V N I J
 | region rid ops draw =>
  intro M st k r G w a Q h hS hI K
  simp only [eH] at h
  rw [bind_some] at h; obtain ⟨st1, h1, h⟩ := h
  obtain ⟨G1, Z, hI1⟩ := KB h1 hS hI
  exact Ij hC hD h Z hI1 (fun H O U V N I J => K .normal H O U V N I J)
 | _ => intro M st k r G w a Q h hS hI K; simp [eH] at h
def Oe (tmps : Array Value) : ResultVar → Sem Value
 | .tmp t => pure (tmps.getD t undef)
 | .cell c t => do loadVar t (← asAddr (tmps.getD c undef))
theorem KA (fn : Func) (tmps : Array Value) : results fn tmps = (do let vs ← fn.results.mapM (Oe tmps); pure (if h : vs.size = 1 then vs[0] else .tuple vs)) := by
 unfold results
 congr 1
theorem zJ {G : Gh} {w : World} {st : St} {a : Act} (hS : SR G w st a) : ∀ {rs : List ResultVar} {vs : List AV}, CS P st.tmps st.mem rs = some vs →
  ∃ us : List Value, gW G w vs us ∧ (rs.mapM (Oe a.tmps)).run P w = .ok us w
 | [], vs, h => by
  simp [CS] at h; subst h
  exact ⟨[], ⟨rfl, fun j y J => by simp at J⟩, by simp⟩
 | .tmp t :: rs, vs, h => by
  simp only [CS] at h
  rw [bind_some] at h; obtain ⟨v, Y, h⟩ := h
  obtain ⟨U, V, rfl⟩ := yc.1 h
  obtain ⟨us, hL, H⟩ := zJ hS V
  refine ⟨a.tmps.getD t undef :: us, ⟨by simp [hL.1], fun j y J => ?_⟩, ?_⟩
  ·cases j with
   | zero => simp at J; subst J; exact hS.get Y
   | succ j => simpa using hL.2 j y (by simpa using J)
  ·rw [List.mapM_cons]
   simp only [Oe, Sem.run_bind, Sem.run_pure, Result.andThen_ok, H]
 | .cell c t :: rs, vs, h => by
  simp only [CS] at h
  rw [bind_some] at h; obtain ⟨x, W, h⟩ := h
  rw [bind_some] at h; obtain ⟨o, M, h⟩ := h
  obtain ⟨U, V, rfl⟩ := yc.1 h
  obtain ⟨us, hL, H⟩ := zJ hS V
  have I := hS.get W
  obtain ⟨v, rd, rfl, cv, K, N⟩ := B0 hS.memr M I
  refine ⟨cv :: us, ⟨by simp [hL.1], fun j y J => ?_⟩, ?_⟩
  ·cases j with
   | zero => simp at J; subst J; exact N
   | succ j => simpa using hL.2 j y (by simpa using J)
  ·rw [List.mapM_cons]
   have : (Oe a.tmps (.cell c t)).run P w = .ok cv w := by
    have O : ∃ p, a.tmps.getD c undef = .pointer (some p) := by
     unfold iU at M
     split at M
     ·generalize a.tmps.getD c undef = z at I; cases I; exact ⟨_, rfl⟩
     ·generalize a.tmps.getD c undef = z at I; cases I; exact ⟨_, rfl⟩
     ·simp at M
    obtain ⟨p, O⟩ := O
    show Sem.run P (do loadVar t (← asAddr (a.tmps.getD c undef))) w = _
    rw [O] at K ⊢
    simpa [Instr.loadAt, Instr.sureAddr, asAddr] using K
   simp only [Sem.run_bind, this, Result.andThen_ok, H, Sem.run_pure]
def m9 (P : Program) : Bool := P.funcs.all fun fn => !(fn.name == "runtime.NumGoroutine")
theorem qM {f : FuncId} {fn : Func} {H : Array Value} {w : World} (I : P.funcs[f]? = some fn) (hn : m9 P = true) (hb : fn.body.isSome = true) : (callFunc f H).run P w = .ok (.enter f H) w := by
 have J : (fn.name == "runtime.NumGoroutine") = false := by
  unfold m9 at hn
  rw [Array.all_eq_true_iff_forall_mem] at hn
  have := hn fn (Array.mem_of_getElem? I)
  simpa using this
 have K : fn.body.isNone = false := by cases h : fn.body <;> simp_all
 unfold callFunc
 simp only [Sem.run_bind, run_program, Result.andThen_ok, I, J, K, yi2, if_false, Sem.run_pure]
end
end Go.Ab
end
section
namespace Go.Ab
variable [b4]
def Ag (S : List Nat) (mem mem' : aH) : Prop := ∀ b ∈ S, mem'[b]? = mem[b]?
theorem Ag.sub {S S' : List Nat} {mem mem' : aH} (h : Ag S mem mem') (hs : ∀ b ∈ S', b ∈ S) : Ag S' mem mem' := fun b H => h b (hs b H)
theorem box?_ag {mem mem' : aH} {b g : Nat} (h : mem'[b]? = mem[b]?) : box? mem' b g = box? mem b g := by unfold box?; rw [h]
theorem Ff {mem mem' : aH} {b : Nat} (h : mem'[b]? = mem[b]?) : nU mem' b = nU mem b := by unfold nU; rw [h]
theorem zL {α β : Type} {f I : α → Option (Bool × β × List Nat)} : ∀ {xs : List α} {r : Bool × List β × List Nat}, f0 f xs = some r → (∀ x q, f x = some q → (∀ b ∈ q.2.2, b ∈ r.2.2) → I x = some q) → f0 I xs = some r
 | [], r, h, _ => h
 | v :: xs, r, h, J => by
  simp only [f0] at h ⊢
  rw [bind_some] at h; obtain ⟨a, U, h⟩ := h
  rw [bind_some] at h; obtain ⟨q, N, h⟩ := h
  obtain rfl := ya h
  rw [J v a U (fun b H => yq1 _ H), zL N (fun x O K M => J x O K (fun b H => ys1 _ (M b H)))]
  rfl
theorem A0 {α β γ : Type} {f J : γ → α → Option (Bool × β × List Nat)} : ∀ {ls : List γ} {xs : List α} {r : Bool × List β × List Nat}, b3 f ls xs = some r → (∀ l x q, f l x = some q → (∀ b ∈ q.2.2, b ∈ r.2.2) → J l x = some q) → b3 J ls xs = some r
 | [], [], r, h, _ => h
 | [], v :: xs, r, h, H => by simp [b3] at h
 | l :: ls, [], r, h, H => by simp [b3] at h
 | l :: ls, v :: xs, r, h, H => by
  simp only [b3] at h ⊢
  rw [bind_some] at h; obtain ⟨a, O, h⟩ := h
  rw [bind_some] at h; obtain ⟨q, M, h⟩ := h
  obtain rfl := ya h
  rw [H l v a O (fun b I => yq1 _ I), A0 M (fun l x N K U => H l x N K (fun b I => ys1 _ (U b I)))]
  rfl
section
variable {P : Program}
theorem l6 {k : IntKind} {b : Nat} {w : aI} {r : Bool × PV × List Nat} (h : a5.treeInts k b w = some r) : b ∈ r.2.2 := by
 unfold a5.treeInts at h
 split at h
 ·rw [aA] at h; obtain ⟨_, h⟩ := h; obtain rfl := ya h; simp
 ·rw [aA] at h; obtain ⟨_, h⟩ := h; obtain ⟨xs, _, rfl⟩ := yc.1 h; simp
 ·simp at h
theorem qF {f : LK → AV → Option (Bool × PV × List Nat)} {t : TypeId} {e b : Nat} {w : aI} {r : Bool × PV × List Nat} (h : a5.treeSl P f t e b w = some r) : b ∈ r.2.2 := by
 unfold a5.treeSl at h
 split at h
 ·rw [aA] at h; obtain ⟨_, h⟩ := h; obtain rfl := ya h; simp
 ·rw [aA] at h; obtain ⟨_, h⟩ := h
  rw [bind_some] at h; obtain ⟨_, _, h⟩ := h
  obtain ⟨xs, _, rfl⟩ := yc.1 h; simp
 ·simp at h
theorem Gm {f K : LK → AV → Option (Bool × PV × List Nat)} {t : TypeId} {e b : Nat} {w : aI} {r : Bool × PV × List Nat} (h : a5.treeSl P f t e b w = some r)
  (N : ∀ l v q, f l v = some q → (∀ b ∈ q.2.2, b ∈ r.2.2) → K l v = some q) : a5.treeSl P K t e b w = some r := by
 unfold a5.treeSl at h ⊢
 split at h
 ·exact h
 ·rw [aA] at h ⊢; obtain ⟨Z, h⟩ := h
  refine ⟨Z, ?_⟩
  rw [bind_some] at h ⊢; obtain ⟨ls, J, h⟩ := h
  refine ⟨ls, J, ?_⟩
  obtain ⟨q, U, rfl⟩ := yc.1 h
  refine yc.2 ⟨q, zL U (fun vs q1 H W => ?_), rfl⟩
  rw [bind_some] at H ⊢; obtain ⟨q2, I, H⟩ := H
  obtain ⟨p, hp, rfl⟩ := yc.1 H
  refine ⟨q2, A0 I (fun l x V Y O => N l x V Y (fun b M => yh _ (W b (O b M)))), H⟩
 ·simp at h
theorem H2 {mem mem' : aH} : ∀ {n : Nat} {l : LK} {v : AV} {r : Bool × PV × List Nat}, a5 P mem n l v = some r → Ag r.2.2 mem mem' → a5 P mem' n l v = some r
 | 0, l, v, r, h, _ => by simp [a5] at h
 | n + 1, l, v, r, h, hA => by
  unfold a5 at h ⊢
  split at h <;> try exact h
  ·rename_i k b g
   rw [bind_some] at h ⊢; obtain ⟨x, H, h⟩ := h
   exact ⟨x, by rw [box?_ag (hA b (l6 h))]; exact H, h⟩
  ·rename_i k b g o m
   rw [bind_some] at h ⊢; obtain ⟨x, H, h⟩ := h
   have K := h
   rw [bind_some] at h; obtain ⟨w, J, h⟩ := h
   exact ⟨x, by rw [box?_ag (hA b (l6 h))]; exact H, K⟩
  ·rename_i t e b g
   rw [bind_some] at h ⊢; obtain ⟨x, H, h⟩ := h
   exact ⟨x, by rw [box?_ag (hA b (qF h))]; exact H, Gm h (fun l v q I hs => H2 I (hA.sub hs))⟩
  ·rename_i t e b g o m
   rw [bind_some] at h ⊢; obtain ⟨x, H, h⟩ := h
   rw [bind_some] at h; obtain ⟨w, J, h⟩ := h
   refine ⟨x, by rw [box?_ag (hA b (qF h))]; exact H, ?_⟩
   rw [bind_some]
   exact ⟨w, J, Gm h (fun l v q I hs => H2 I (hA.sub hs))⟩
variable {mem mem' : aH}
theorem boxO?_ag {b g : Nat} (h : mem'[b]? = mem[b]?) : boxO? mem' b g = boxO? mem b g := by unfold boxO?; rw [h]
theorem zT {b : Nat} (h : mem'[b]? = mem[b]?) : vE mem' b = vE mem b := by unfold vE; rw [h]
theorem Ns {n b g : Nat} {l : LK} {r : Bool × PV × List Nat} (h : a5 P mem n l (.msw b g) = some r) : b ∈ r.2.2 := by
 cases n with
 | zero => simp [a5] at h
 | succ n =>
  unfold a5 at h
  cases l <;> simp only at h <;> first
   | (cases h; done)
   | (rw [bind_some] at h; obtain ⟨x, _, h⟩ := h; exact l6 h)
   | (rw [bind_some] at h; obtain ⟨x, _, h⟩ := h; exact qF h)
theorem OF {n b g o m : Nat} {l : LK} {r : Bool × PV × List Nat} (h : a5 P mem n l (.ms b g o m) = some r) : b ∈ r.2.2 := by
 cases n with
 | zero => simp [a5] at h
 | succ n =>
  unfold a5 at h
  cases l <;> simp only at h <;> first
   | (cases h; done)
   | (rw [bind_some] at h; obtain ⟨x, _, h⟩ := h; rw [bind_some] at h; obtain ⟨_, _, h⟩ := h; exact l6 h)
   | (rw [bind_some] at h; obtain ⟨x, _, h⟩ := h; rw [bind_some] at h; obtain ⟨_, _, h⟩ := h; exact qF h)
theorem Fk {l : LK} {v : AV} {r : Bool × PV × List Nat} (h : i4 P mem l v = some r) (hA : Ag r.2.2 mem mem') : i4 P mem' l v = some r := by
 have I : ∀ b g, (v = .msw b g ∨ ∃ n, v = .ms b g 0 n) → b ∈ r.2.2 := by
  intro b g J
  unfold i4 at h
  split at h
  ·rename_i q K
   split at h
   ·rw [aA] at h; obtain ⟨_, h⟩ := h
    obtain rfl := ya h
    obtain ⟨g', x, xs, H, _⟩ := Fl K
    rcases J with rfl | ⟨n, rfl⟩ <;> rcases H with ⟨H, _⟩ | ⟨n', H, _⟩ <;> cases H <;> simp
   ·cases h
  ·rcases J with rfl | ⟨n, rfl⟩
   ·exact Ns h
   ·exact OF h
 have hO : nS mem' v = nS mem v := by
  unfold nS
  split
  ·rename_i b g; simp only [boxO?_ag (hA b (I b g (.inl rfl)))]
  ·rename_i b g n; simp only [boxO?_ag (hA b (I b g (.inr ⟨n, rfl⟩)))]
  ·rfl
 unfold i4 at h ⊢
 rw [hO]
 split at h
 ·exact h
 ·exact H2 h hA
theorem CZ {t : TypeId} {v : AV} {r : Bool × PV × List Nat} (h : rQ P mem t v = some r) (hA : Ag r.2.2 mem mem') : rQ P mem' t v = some r := by
 unfold rQ at h ⊢
 rw [bind_some] at h ⊢; obtain ⟨ls, H, h⟩ := h
 refine ⟨ls, H, ?_⟩
 rw [bind_some] at h ⊢; obtain ⟨q, K, h⟩ := h
 refine ⟨q, A0 K (fun l x q' J M => Fk J (hA.sub fun b I => ?_)), h⟩
 obtain ⟨p, _, rfl⟩ := yc.1 h
 exact M b I
theorem Mk {vars : Bool} {t : TypeId} {vs : List AV} {r : aI × List Nat} (h : mE P vars mem t vs = some r) (hA : Ag r.2 mem mem') : mE P vars mem' t vs = some r := by
 unfold mE at h ⊢
 split at h
 ·exact h
 ·rw [bind_some] at h ⊢; obtain ⟨e, H, h⟩ := h
  refine ⟨e, H, ?_⟩
  cases vars with
  | true => exact h
  | false =>
   simp only [yk] at h ⊢
   obtain ⟨q, K, rfl⟩ := yc.1 h
   exact yc.2 ⟨q, zL K (fun v q' I J => CZ I (hA.sub J)), rfl⟩
theorem vM : ∀ {ids : List Nat}, Ag ids mem mem' → bY mem' ids = bY mem ids
 | [], _ => rfl
 | b :: r, h => by
  have I := vM (ids := r) (h.sub fun b H => yh _ H)
  simp only [bY, h b (ym ..), I]
theorem z4 {I : TypeId} {y : AV} {v : aI × List Nat} (h : view P I mem y = some v) (hA : Ag v.2 mem mem') : view P I mem' y = some v := by
 unfold view at h ⊢
 split at h <;> try exact h
 ·rename_i b g o n
  have h' := h
  rw [bind_some] at h ⊢; obtain ⟨x, H, h⟩ := h
  obtain ⟨w, hw, rfl⟩ := yc.1 h
  exact ⟨x, by rw [box?_ag (hA b (by simp))]; exact H, h⟩
 ·rename_i b g
  rw [bind_some] at h ⊢; obtain ⟨x, H, h⟩ := h
  obtain rfl := ya h
  exact ⟨x, by rw [box?_ag (hA b (by simp))]; exact H, rfl⟩
theorem Nl {t : TypeId} {x : AV} {n : Nat × List Nat} (h : lenOf P t mem x = some n) (hA : Ag n.2 mem mem') : lenOf P t mem' x = some n := by
 unfold lenOf at h ⊢
 split at h
 ·exact h
 ·split at h <;> try exact h
  rename_i b g
  obtain ⟨x, H, rfl⟩ := yc.1 h
  exact yc.2 ⟨x, by rw [box?_ag (hA b (by simp))]; exact H, rfl⟩
 ·simp at h
variable {out : dD}
theorem N0 {t : TypeId} {a : AV} (h : iU P t mem a = some out) (hA : Ag out.rd mem mem') : iU P t mem' a = some out := by
 unfold iU at h ⊢
 split at h
 ·exact h
 ·rename_i b g i c
  rw [bind_some] at h ⊢; obtain ⟨x, H, h⟩ := h
  refine ⟨x, ?_, h⟩
  have : b ∈ out.rd := by
   split at h
   ·rw [bind_some] at h; obtain ⟨ag, _, h⟩ := h
    cases ag with
    | true =>
     simp only [yl] at h
     rw [bind_some] at h; obtain ⟨n, _, h⟩ := h
     rw [aA] at h; obtain ⟨_, h⟩ := h
     obtain rfl := ya h; simp
    | false =>
     simp only [yk] at h
     obtain ⟨v, _, rfl⟩ := yc.1 h; simp
   ·rw [aA] at h; obtain ⟨_, h⟩ := h
    rw [aA] at h; obtain ⟨_, h⟩ := h
    obtain ⟨v, _, rfl⟩ := yc.1 h; simp
   ·rw [bind_some] at h; obtain ⟨y, _, h⟩ := h
    obtain ⟨v, _, rfl⟩ := yc.1 h; simp
   ·cases h
  rw [box?_ag (hA b this)]; exact H
 ·simp at h
theorem Nb {t : TypeId} {a x : AV} (h : iO P t mem a x = some out) (hA : Ag out.rd mem mem') : iO P t mem' a x = some out := by
 unfold iO at h ⊢
 split at h
 ·rename_i b g i c
  rw [bind_some] at h ⊢; obtain ⟨N, I, h⟩ := h
  refine ⟨N, ?_, ?_⟩
  ·have : b ∈ out.rd := by
    rw [bind_some] at h; obtain ⟨n, _, h⟩ := h
    rw [aA] at h; obtain ⟨_, h⟩ := h
    split at h
    ·rw [aA] at h; obtain ⟨_, h⟩ := h
     obtain rfl := ya h; simp
    ·split at h
     ·rw [aA] at h; obtain ⟨_, h⟩ := h
      obtain rfl := ya h; simp
     ·simp at h
    ·rw [bind_some] at h; obtain ⟨p, _, h⟩ := h
     rw [bind_some] at h; obtain ⟨q, _, h⟩ := h
     rw [aA] at h; obtain ⟨_, h⟩ := h
     obtain rfl := ya h; simp
    ·cases h
   rw [box?_ag (hA b this)]; exact I
  ·rw [bind_some] at h ⊢; obtain ⟨n, hn, h⟩ := h
   refine ⟨n, hn, ?_⟩
   rw [aA] at h ⊢; obtain ⟨U, h⟩ := h
   refine ⟨U, ?_⟩
   split at h
   ·exact h
   ·exact h
   ·rw [bind_some] at h ⊢; obtain ⟨p, K, h⟩ := h
    refine ⟨p, K, ?_⟩
    rw [bind_some] at h ⊢; obtain ⟨q, M, h⟩ := h
    have O := h
    rw [aA] at h; obtain ⟨_, h⟩ := h
    obtain rfl := ya h
    have H : Ag q.2.2 mem mem' := hA.sub fun b J => yh _ J
    exact ⟨q, CZ M H, by rw [vM H]; exact O⟩
   ·exact h
 ·simp at h
theorem My {t : TypeId} {x : AV} {i : Int} (h : gX P t mem x i = some out) (hA : Ag out.rd mem mem') : gX P t mem' x i = some out := by
 unfold gX at h ⊢
 split at h
 ·rw [bind_some] at h ⊢; obtain ⟨s, hs, h⟩ := h
  refine ⟨s, hs, ?_⟩
  split at h <;> try exact h
  ·rename_i b g o n
   rw [bind_some] at h ⊢; obtain ⟨I, H, h⟩ := h
   refine ⟨I, ?_, h⟩
   rw [aA] at h; obtain ⟨_, h⟩ := h
   obtain rfl := ya h
   rw [box?_ag (hA b (by simp))]; exact H
  ·rename_i b g
   rw [bind_some] at h ⊢; obtain ⟨I, H, h⟩ := h
   refine ⟨I, ?_, h⟩
   rw [aA] at h; obtain ⟨_, h⟩ := h
   obtain rfl := ya h
   rw [box?_ag (hA b (by simp))]; exact H
 ·exact h
 ·simp at h
theorem Na {t : TypeId} {x : AV} {J K M : Option Int} (h : fV P t mem x J K M = some out) (hA : Ag out.rd mem mem') : fV P t mem' x J K M = some out := by
 unfold fV at h ⊢
 split at h
 ·exact h
 ·rw [bind_some] at h ⊢; obtain ⟨s, hs, h⟩ := h
  refine ⟨s, hs, ?_⟩
  split at h <;> try exact h
  ·rename_i b g o n
   rw [bind_some] at h ⊢; obtain ⟨I, H, h⟩ := h
   refine ⟨I, ?_, h⟩
   rw [aA] at h; obtain ⟨_, h⟩ := h
   obtain ⟨q, _, rfl⟩ := yc.1 h
   rw [box?_ag (hA b (by simp))]; exact H
  ·rename_i b g
   rw [bind_some] at h ⊢; obtain ⟨I, H, h⟩ := h
   refine ⟨I, ?_, h⟩
   rw [aA] at h; obtain ⟨_, h⟩ := h
   obtain ⟨q, _, rfl⟩ := yc.1 h
   rw [box?_ag (hA b (by simp))]; exact H
 ·rw [bind_some] at h ⊢; obtain ⟨s, hs, h⟩ := h
  refine ⟨s, hs, ?_⟩
  split at h
  ·rename_i b g c
   rw [aA] at h ⊢; obtain ⟨N, h⟩ := h
   refine ⟨N, ?_⟩
   rw [bind_some] at h ⊢; obtain ⟨I, H, h⟩ := h
   refine ⟨I, ?_, h⟩
   split at h
   ·rw [aA] at h; obtain ⟨_, h⟩ := h
    obtain ⟨q, _, rfl⟩ := yc.1 h
    rw [box?_ag (hA b (by simp))]; exact H
   ·simp at h
  ·simp at h
 ·simp at h
theorem Km {boxed vars : Bool} {t V : TypeId} {rs : Nat} {x y : AV} (h : gN P boxed vars t V mem rs x y = some out) (hA : Ag out.rd mem mem') : gN P boxed vars t V mem' rs x y = some out := by
 unfold gN at h ⊢
 rw [bind_some] at h ⊢; obtain ⟨Y, U, h⟩ := h; refine ⟨Y, U, ?_⟩
 rw [bind_some] at h ⊢; obtain ⟨s, hs, h⟩ := h; refine ⟨s, hs, ?_⟩
 rw [bind_some] at h ⊢; obtain ⟨bytes, K, h⟩ := h; refine ⟨bytes, K, ?_⟩
 rw [bind_some] at h ⊢; obtain ⟨z, hz, h⟩ := h; refine ⟨z, hz, ?_⟩
 rw [bind_some] at h ⊢; obtain ⟨M, H, h⟩ := h
 have Z := h
 rw [aA] at h; obtain ⟨W, h⟩ := h
 split at h
 ·refine ⟨M, ?_, Z⟩
  rw [aA] at h; obtain ⟨_, h⟩ := h
  refine z4 H (hA.sub fun b J => ?_)
  cases boxed with
  | true => simp only [yl] at h; obtain ⟨row, _, rfl⟩ := yc.1 h; exact J
  | false => simp only [yk] at h; obtain ⟨v, _, rfl⟩ := yc.1 h; exact J
 ·rename_i b g
  have h1 := h
  rw [bind_some] at h; obtain ⟨N, I, h⟩ := h
  have O := h
  rw [bind_some] at h; obtain ⟨zv, _, h⟩ := h
  rw [aA] at h; obtain ⟨_, h⟩ := h
  obtain rfl := ya h
  refine ⟨M, z4 H (hA.sub fun b J => yh _ J), ?_⟩
  rw [aA]
  refine ⟨W, ?_⟩
  rw [bind_some]
  exact ⟨N, by rw [box?_ag (hA b (ym ..))]; exact I, O⟩
 ·rename_i b g n
  have h1 := h
  rw [bind_some] at h; obtain ⟨N, I, h⟩ := h
  have O := h
  rw [bind_some] at h; obtain ⟨xv, _, h⟩ := h
  rw [bind_some] at h; obtain ⟨zv, _, h⟩ := h
  rw [aA] at h; obtain ⟨_, h⟩ := h
  obtain rfl := ya h
  refine ⟨M, z4 H (hA.sub fun b J => yh _ J), ?_⟩
  rw [aA]
  refine ⟨W, ?_⟩
  rw [bind_some]
  exact ⟨N, by rw [box?_ag (hA b (ym ..))]; exact I, O⟩
 ·simp at h
theorem NQ {t I : TypeId} {rs : Nat} {n : Int} (h : Cj P t I mem rs n = some out) : Cj P t I mem' rs n = some out := by
 unfold Cj at h ⊢
 split at h
 ·rw [bind_some] at h ⊢; obtain ⟨M, H, h⟩ := h
  refine ⟨M, H, ?_⟩
  rw [bind_some] at h ⊢; obtain ⟨z, U, h⟩ := h
  refine ⟨z, U, ?_⟩
  split at h
  ·rw [bind_some] at h ⊢; obtain ⟨q, O, h⟩ := h
   have N := h
   rw [bind_some] at h; obtain ⟨e, _, h⟩ := h
   rw [bind_some] at h; obtain ⟨bytes, _, h⟩ := h
   rw [aA] at h
   have J := h.1
   simp only [yb] at J
   exact ⟨q, CZ O (by rw [mW J.2.2]; exact fun b K => by cases K), N⟩
  ·cases h
 ·cases h
theorem JU {boxed vars : Bool} {b : Builtin} {ts : List TypeId} {rs : Nat} {args : List AV} (h : d4 P boxed vars b ts mem rs args = some out) (hA : Ag out.rd mem mem') : d4 P boxed vars b ts mem' rs args = some out := by
 unfold d4 at h ⊢
 split at h
 ·obtain ⟨n, hn, rfl⟩ := yc.1 h
  exact yc.2 ⟨n, Nl hn hA, rfl⟩
 ·exact NQ h
 ·exact Km h hA
 ·exact h
 ·exact h
 ·exact h
 ·simp at h
theorem Ju {boxed : Bool} {H dst : TypeId} {rs : Nat} {x : AV} (h : k8 P boxed H dst mem rs x = some out) (hA : Ag out.rd mem mem') : k8 P boxed H dst mem' rs x = some out := by
 unfold k8 at h ⊢
 split at h
 ·exact h
 ·exact h
 ·split at h
  ·rw [bind_some] at h ⊢; obtain ⟨v, K, h⟩ := h
   refine ⟨v, z4 K ?_, h⟩
   rw [aA] at h; obtain ⟨_, h⟩ := h
   split at h
   ·obtain rfl := ya h; exact hA
   ·simp at h
  ·exact h
 ·split at h
  ·rw [aA] at h ⊢; obtain ⟨J, h⟩ := h; refine ⟨J, ?_⟩
   rw [bind_some] at h ⊢; obtain ⟨x, I, h⟩ := h
   refine ⟨x, ?_, h⟩
   rw [aA] at h; obtain ⟨_, h⟩ := h
   obtain rfl := ya h
   rw [box?_ag (hA _ (by simp))]; exact I
  ·exact h
 ·simp at h
theorem vX {l : LK} {v : AV} {r : AV × List Nat} (h : gB P mem l v = some r) (hA : Ag r.2 mem mem') : gB P mem' l v = some r := by
 unfold gB at h ⊢
 split at h
 ·obtain ⟨q, H, rfl⟩ := yc.1 h
  exact yc.2 ⟨q, Fk H hA, rfl⟩
 ·obtain ⟨q, H, rfl⟩ := yc.1 h
  exact yc.2 ⟨q, Fk H hA, rfl⟩
 ·exact h
theorem Ae : ∀ {ls : List LK} {vs : List AV} {r : List AV × List Nat}, bT P mem ls vs = some r → Ag r.2 mem mem' → bT P mem' ls vs = some r
 | [], [], r, h, _ => h
 | [], v :: vs, r, h, _ => by simp [bT] at h
 | l :: ls, [], r, h, _ => by simp [bT] at h
 | l :: ls, v :: vs, r, h, hA => by
  simp only [bT] at h ⊢
  rw [bind_some] at h; obtain ⟨a, I, h⟩ := h
  rw [bind_some] at h; obtain ⟨b, H, h⟩ := h
  obtain rfl := ya h
  rw [vX I (hA.sub fun b H => yq1 _ H), Ae H (hA.sub fun b H => ys1 _ H)]
  rfl
theorem OB {t : TypeId} {v : AV} {r : AV × List Nat} (h : lend P mem t v = some r) (hA : Ag r.2 mem mem') : lend P mem' t v = some r := by
 unfold lend at h ⊢
 split at h
 ·rw [bind_some] at h ⊢; obtain ⟨l, I, h⟩ := h
  exact ⟨l, I, vX h hA⟩
 ·rw [bind_some] at h ⊢; obtain ⟨l, I, h⟩ := h
  exact ⟨l, I, vX h hA⟩
 ·rename_i cs
  cases H : GX cs with
  | true =>
   rw [H] at h; simp only [yl] at h ⊢
   rw [bind_some] at h ⊢; obtain ⟨ls, J, h⟩ := h
   refine ⟨ls, J, ?_⟩
   obtain ⟨q, K, rfl⟩ := yc.1 h
   exact yc.2 ⟨q, Ae K hA, rfl⟩
  | false => rw [H] at h; exact h
 ·exact h
theorem Fh : ∀ {ts : List TypeId} {vs : List AV} {r : List AV × List Nat}, fY P mem ts vs = some r → Ag r.2 mem mem' → fY P mem' ts vs = some r
 | [], [], r, h, _ => h
 | [], v :: vs, r, h, _ => by simp [fY] at h
 | t :: ts, [], r, h, _ => by simp [fY] at h
 | t :: ts, v :: vs, r, h, hA => by
  simp only [fY] at h ⊢
  rw [bind_some] at h; obtain ⟨a, I, h⟩ := h
  rw [bind_some] at h; obtain ⟨b, H, h⟩ := h
  obtain rfl := ya h
  rw [OB I (hA.sub fun b H => yq1 _ H), Fh H (hA.sub fun b H => ys1 _ H)]
  rfl
theorem Bd : ∀ {n : Nat} {I H : List Nat}, ∀ b ∈ H, b ∈ fX mem n I H
 | 0, I, H, b, J => by simpa [fX] using J
 | n + 1, [], H, b, J => by simpa [fX] using J
 | n + 1, t :: I, H, b, J => by
  simp only [fX]
  cases eZ t H with
  | true => simp only [yl]; exact Bd b J
  | false => simp only [yk]; exact Bd b (yq1 _ J)
theorem FI : ∀ {n : Nat} {I H : List Nat}, Ag (fX mem n I H) mem mem' → fX mem' n I H = fX mem n I H
 | 0, I, H, _ => by simp [fX]
 | n + 1, [], H, _ => by simp [fX]
 | n + 1, t :: I, H, hA => by
  simp only [fX] at hA ⊢
  cases hm : eZ t H with
  | true => rw [hm] at hA; simp only [yl] at hA ⊢; exact FI hA
  | false =>
   rw [hm] at hA; simp only [yk] at hA ⊢
   have ht : mem'[t]? = mem[t]? := hA t (Bd t (by simp))
   have : Bw mem' t = Bw mem t := by unfold Bw; rw [ht]
   rw [this]
   exact FI hA
theorem FA : ∀ {ids : List Nat} {b n : Nat}, b ∉ ids → s9 b ids n = none
 | [], b, n, _ => rfl
 | m :: r, b, n, h => by
  simp only [s9]
  cases H : Nat.beq m b with
  | true => exact absurd (by rw [bJ.1 H]; exact ym ..) h
  | false => simp only [yk]; exact FA fun I => h (yh _ I)
theorem Lf {b : Nat} (h : mem'[b]? = mem[b]?) : kJ mem' b = kJ mem b := by unfold kJ; rw [h]
theorem Nj {m : Nat} {keep : Bool} {ids : List Nat} (hA : Ag ids mem mem') : fG m keep mem' ids = fG m keep mem ids := by
 funext b g
 by_cases H : b ∈ ids
 ·unfold fG; rw [Ff (hA b H), Lf (hA b H)]
 ·have J : s9 b ids 0 = none := FA H
  have : ∀ I : aH, fG m keep I ids b g = none := by
   intro I
   unfold fG
   split
   ·rw [J]; cases Nat.beq _ g <;> rfl
   ·rfl
  rw [this, this]
theorem Dv {m : Nat} {keep : Bool} (f : jS) : ∀ {ids : List Nat} {n : Nat}, Ag ids mem mem' → d6 m keep f mem' n ids = d6 m keep f mem n ids
 | [], _, _ => rfl
 | b :: r, n, h => by
  simp only [d6, h b (ym ..), Dv f (ids := r) (h.sub fun b H => yh _ H)]
theorem pW (f : jS) : ∀ {ids : List Nat} {q : aH}, Ag ids mem mem' → a8 f mem' ids q = a8 f mem ids q
 | [], q, _ => by simp [a8]
 | a :: ids, [], _ => by simp [a8]
 | a :: ids, none :: q, h => by simp only [a8]; exact pW f (h.sub fun b H => yh _ H)
 | a :: ids, some x :: q, h => by
  simp only [a8, Ff (h a (ym ..)), pW f (ids := ids) (q := q) (h.sub fun b H => yh _ H)]
theorem Lo {sub : aH} {ids : List Nat} (H : mem'.length = mem.length) (hA : Ag ids mem mem') : cU mem' sub ids = cU mem sub ids := by
 funext b g
 unfold cU
 cases I : ids[b]? with
 | none => simp only [H]
 | some a => simp only [Ff (hA a (yt I))]
theorem Nc {keep : Bool} {ts : List TypeId} {vs : List AV} {r : List AV × List Nat} (h : Iy P keep mem ts vs = some r) (hA : Ag r.2 mem mem') : Iy P keep mem' ts vs = some r := by
 cases keep with
 | true => exact h
 | false => exact Fh h hA
theorem NR {C : bQ} {raw keep : Bool} {g : FuncId} {ts : List TypeId} {H args I : List AV} (V : mem'.length = mem.length) (h : yI P C raw keep g ts H args I mem = some out) (hA : Ag out.rd mem mem') : yI P C raw keep g ts H args I mem' = some out := by
 unfold yI at h ⊢
 rw [bind_some] at h ⊢; obtain ⟨J, U, h⟩ := h
 simp only at h
 have O : out.rd = J.2 ++ fX mem (dH mem (AV.refsAll (H ++ J.1 ++ I)).length) (AV.refsAll (H ++ J.1 ++ I)) [] := by
  rw [aA] at h; obtain ⟨_, h⟩ := h
  rw [bind_some] at h; obtain ⟨q, _, h⟩ := h
  rw [aA] at h; obtain ⟨_, h⟩ := h
  revert h
  cases (fN (fX mem (dH mem (AV.refsAll (H ++ J.1 ++ I)).length) (AV.refsAll (H ++ J.1 ++ I)) []).length
    (bif raw then q.1 else lE (fX mem (dH mem (AV.refsAll (H ++ J.1 ++ I)).length) (AV.refsAll (H ++ J.1 ++ I)) []).length q.2 q.1).refs &&
     fN (fX mem (dH mem (AV.refsAll (H ++ J.1 ++ I)).length) (AV.refsAll (H ++ J.1 ++ I)) []).length
      (cE (List.take (fX mem (dH mem (AV.refsAll (H ++ J.1 ++ I)).length) (AV.refsAll (H ++ J.1 ++ I)) []).length q.2))) with
  | true => intro h; simp only [yl] at h; obtain rfl := ya h; rfl
  | false => intro h; simp only [yk] at h; obtain rfl := ya h; rfl
 rw [O] at hA
 refine ⟨J, Nc U (hA.sub fun b N => yq1 _ N), ?_⟩
 have M : ∀ n, dH mem' n = dH mem n := fun n => by unfold dH; rw [V]
 have K := hA.sub (S' := fX mem (dH mem (AV.refsAll (H ++ J.1 ++ I)).length) (AV.refsAll (H ++ J.1 ++ I)) []) fun b N => ys1 _ N
 simp only [M, FI K, Nj K, Dv _ K, Lo V K, pW _ K]
 exact h
theorem Ph {C : bQ} {boxed raw vars : Bool} {o : Oper} {ρ : Operand → Option AV} {rs : Nat} (hl : kS o = true → mem'.length = mem.length) (h : Ly P C boxed raw vars o ρ mem rs = some out) (hA : Ag out.rd mem mem') :
  Ly P C boxed raw vars o ρ mem' rs = some out := by
 unfold Ly Ef Ac Jy AB fH wM JE J1 Ni FG Bi wQ kV AR wH oR BU at h ⊢
 split at h <;> rename_i hop <;> try exact h
 ·rw [bind_some] at h ⊢; obtain ⟨N, I, h⟩ := h; refine ⟨N, I, ?_⟩
  rw [bind_some] at h ⊢; obtain ⟨z, U, h⟩ := h; refine ⟨z, U, ?_⟩
  rw [bind_some] at h ⊢; obtain ⟨s, hs, h⟩ := h; refine ⟨s, hs, ?_⟩
  rw [bind_some] at h ⊢; obtain ⟨ps, hps, h⟩ := h; refine ⟨ps, hps, ?_⟩
  rw [aA] at h ⊢; obtain ⟨J, h⟩ := h; refine ⟨J, ?_⟩
  rw [bind_some] at h ⊢; obtain ⟨wv, Z, h⟩ := h
  have h' := h
  rw [aA] at h; obtain ⟨_, h⟩ := h
  obtain ⟨ov, _, rfl⟩ := yc.1 h
  exact ⟨wv, Mk Z hA, by rw [vM hA]; exact h'⟩
 ·rw [bind_some] at h ⊢; obtain ⟨a, K, h⟩ := h
  exact ⟨a, K, N0 h hA⟩
 ·rw [bind_some] at h ⊢; obtain ⟨a, K, h⟩ := h; refine ⟨a, K, ?_⟩
  rw [bind_some] at h ⊢; obtain ⟨x, M, h⟩ := h
  exact ⟨x, M, Nb h hA⟩
 ·rw [bind_some] at h ⊢; obtain ⟨a, K, h⟩ := h
  exact ⟨a, K, Ju h hA⟩
 ·rw [bind_some] at h ⊢; obtain ⟨N, I, h⟩ := h; refine ⟨N, I, ?_⟩
  rw [bind_some] at h ⊢; obtain ⟨z, U, h⟩ := h; refine ⟨z, U, ?_⟩
  rw [bind_some] at h ⊢; obtain ⟨l, V, h⟩ := h; refine ⟨l, V, ?_⟩
  rw [bind_some] at h ⊢; obtain ⟨c, O, h⟩ := h; refine ⟨c, O, ?_⟩
  split at h
  ·rw [aA] at h ⊢; obtain ⟨J, h⟩ := h; refine ⟨J, ?_⟩
   split at h
   ·exact h
   ·rw [bind_some] at h ⊢; obtain ⟨q, hq, h⟩ := h
    refine ⟨q, ?_, h⟩
    rw [bind_some] at h; obtain ⟨e, _, h⟩ := h
    rw [bind_some] at h; obtain ⟨bytes, _, h⟩ := h
    rw [aA] at h; obtain ⟨J, h⟩ := h
    simp only [yb] at J
    have : q.2.2 = [] := mW J.2
    exact CZ hq (by rw [this]; intro b hb; cases hb)
  ·exact h
 ·rw [bind_some] at h ⊢; obtain ⟨x, M, h⟩ := h; refine ⟨x, M, ?_⟩
  rw [bind_some] at h ⊢; obtain ⟨lo, hlo, h⟩ := h; refine ⟨lo, hlo, ?_⟩
  rw [bind_some] at h ⊢; obtain ⟨hi, hhi, h⟩ := h; refine ⟨hi, hhi, ?_⟩
  rw [bind_some] at h ⊢; obtain ⟨mx, Y, h⟩ := h
  exact ⟨mx, Y, Na h hA⟩
 ·rw [bind_some] at h ⊢; obtain ⟨x, M, h⟩ := h; refine ⟨x, M, ?_⟩
  rw [bind_some] at h ⊢; obtain ⟨ix, W, h⟩ := h; refine ⟨ix, W, ?_⟩
  split at h
  ·exact My h hA
  ·exact h
 ·rename_i c
  rw [bind_some] at h ⊢; obtain ⟨args, H, h⟩ := h; refine ⟨args, H, ?_⟩
  split at h
  ·exact JU h hA
  ·rename_i f O
   rw [bind_some] at h ⊢; obtain ⟨fv, hf, h⟩ := h; refine ⟨fv, hf, ?_⟩
   split at h
   ·exact NR (hl (by unfold kS; rw [hop]; simp only; rw [O])) h hA
   ·exact h
  ·exact h
theorem mZ {ρ ρ' : Operand → Option AV} : ∀ {xs : List Operand}, (∀ x ∈ xs, ρ' x = ρ x) → m7 ρ' xs = m7 ρ xs
 | [], _ => rfl
 | x :: r, h => by simp only [m7, h x (ym ..), mZ (xs := r) (fun y H => h y (yh _ H))]
theorem lM {ρ ρ' : Operand → Option AV} : ∀ {xs : List (Nat × Operand)}, (∀ x ∈ xs.map (·.2), ρ' x = ρ x) → jW ρ' xs = jW ρ xs
 | [], _ => rfl
 | (i, x) :: r, h => by simp only [jW, h x (by simp), lM (xs := r) (fun y H => h y (yh _ H))]
theorem j8 {ρ ρ' : Operand → Option AV} {x : Option Operand} (h : ∀ y, x = some y → ρ' y = ρ y) : AH ρ' x = AH ρ x := by
 cases x with
 | none => rfl
 | some y => simp only [AH, h y rfl]
theorem OY {C : bQ} {boxed raw vars : Bool} {o : Oper} {ρ ρ' : Operand → Option AV} {rs : Nat} (h : ∀ x ∈ o.op.operands, ρ' x = ρ x) : Ly P C boxed raw vars o ρ' mem rs = Ly P C boxed raw vars o ρ mem rs := by
 obtain ⟨dst, op, M, N, K, guard⟩ := o
 cases op <;> simp only [Op.operands] at h <;> simp only [Ly, Ef, Ac, Jy, AB, fH, wM, JE, J1, Ni, FG, Bi, wQ, kV, AR, wH, oO, oR, BU]
 case move x => simp only [sO, h x (by simp)]
 case assign x => simp only [sO, h x (by simp)]
 case build t ps => rw [lM (fun x H => h x (by simpa using H))]
 case buildSlice t n ps => rw [lM (fun x H => h x (by simpa using H))]
 case makeFunc fn first captured =>
  rw [mZ (xs := first.toList) fun x H => h x (by simp at H ⊢; exact .inl H), mZ (xs := captured.toList) fun x H => h x (by simp at H ⊢; exact .inr H)]
 case slice t x lo hi mx =>
  rw [h x (by simp), j8 (x := lo) fun y I => h y (by simp [I]), j8 (x := hi) fun y I => h y (by simp [I]), j8 (x := mx) fun y I => h y (by simp [I])]
 case call c =>
  obtain ⟨J, args, ts⟩ := c
  simp only [Call.operands] at h
  rw [mZ (xs := args.toList) fun x H => h x (by simp at H ⊢; exact .inr H)]
  cases J with
  | builtin b => rfl
  | value f => simp only [h f (by simp)]
  | invoke r m => rfl
 all_goals (first | rfl | (simp_all; done))
theorem Jz {xs : List PV} {i c : Nat} {l : LK} {hs : List (Nat × Nat × AV)} {nb nb' : Nat} : nH false xs i c l hs nb = nH false xs i c l hs nb' := by
 unfold nH
 cases xs[i]? with
 | none => rfl
 | some p =>
  simp only [ye]
  cases p.cells[c]? with
  | none => rfl
  | some y =>
   simp only [ye]
   split
   ·rfl
   ·cases y7 l <;> rfl
theorem GI {xs : List PV} {i : Nat} : ∀ {ls : List LK} {c : Nat} {hs : List (Nat × Nat × AV)} {nb nb' : Nat}, oG false xs i ls c hs nb = oG false xs i ls c hs nb'
 | [], c, hs, nb, nb' => rfl
 | l :: ls, c, hs, nb, nb' => by
  simp only [oG]
  rw [Jz (nb' := nb')]
  cases nH false xs i c l hs nb' with
  | none => rfl
  | some a => simp only [ye]; rw [GI (ls := ls) (nb := nb + a.2.2.length) (nb' := nb' + a.2.2.length)]
theorem JQ {b e : Nat} {H : a9} {xs : List PV} {v : AV} {q : List (Nat × Nat × AV) × List Row} : (AQ b e H xs v q).rd = [b] := by unfold AQ; split <;> rfl
theorem IZ {t : TypeId} {a : AV} (h : At P false t mem a = some out) (hA : Ag out.rd mem mem') : At P false t mem' a = some out ∧ ∀ b g i c, a = .ptr b g i c → b ∈ out.rd := by
 unfold At at h ⊢
 split at h
 ·rename_i b g i c
  rw [bind_some] at h; obtain ⟨bx, I, h⟩ := h
  have H : b ∈ out.rd := by
   split at h
   ·split at h
    ·rw [bind_some] at h; obtain ⟨l, hl, h⟩ := h
     obtain ⟨q, K, rfl⟩ := yc.1 h
     rw [JQ]; simp
    ·rw [bind_some] at h; obtain ⟨ls, M, h⟩ := h
     rw [bind_some] at h; obtain ⟨n, hn, h⟩ := h
     rw [aA] at h; obtain ⟨_, h⟩ := h
     obtain ⟨q, K, rfl⟩ := yc.1 h
     rw [JQ]; simp
    ·cases h
   ·cases h
  refine ⟨?_, fun b' g' i' c' J => by cases J; exact H⟩
  rw [boxO?_ag (hA b H), I, ye]
  split at h
  ·split at h
   ·simp only [Jz (nb := mem'.length) (nb' := mem.length)]; exact h
   ·simp only [GI (nb := mem'.length) (nb' := mem.length)]; exact h
   ·exact h
  ·exact h
 ·cases h
theorem Mo {t : TypeId} {a x : AV} (h : lG P t mem a x = some out) (hA : Ag out.rd mem mem') : lG P t mem' a x = some out ∧ ∀ b g i c, a = .ptr b g i c → b ∈ out.rd := by
 unfold lG at h ⊢
 split at h
 ·rename_i b g i c
  rw [bind_some] at h; obtain ⟨bx, I, h⟩ := h
  have H : b ∈ out.rd := by
   split at h
   ·rw [bind_some] at h; obtain ⟨n, hn, h⟩ := h
    rw [aA] at h; obtain ⟨_, h⟩ := h
    rw [bind_some] at h; obtain ⟨p, _, h⟩ := h
    rw [bind_some] at h; obtain ⟨y, _, h⟩ := h
    split at h
    ·rw [aA] at h; obtain ⟨_, h⟩ := h; obtain rfl := ya h; simp
    ·cases h
    ·rw [bind_some] at h; obtain ⟨y', _, h⟩ := h
     obtain ⟨hs', _, rfl⟩ := yc.1 h; simp
    ·cases h
    ·obtain ⟨hs', _, rfl⟩ := yc.1 h; simp
   ·cases h
  refine ⟨?_, fun b' g' i' c' J => by cases J; exact H⟩
  rw [boxO?_ag (hA b H), I, ye]; exact h
 ·cases h
theorem Oy {t : TypeId} {x : AV} (h : Jm P t mem x = some out) (hA : Ag out.rd mem mem') : Jm P t mem' x = some out ∧ ∀ b g, x = .msw b g → b ∈ out.rd := by
 unfold Jm at h ⊢
 split at h
 ·rename_i e b g hu
  obtain ⟨bx, H, rfl⟩ := yc.1 h
  refine ⟨?_, fun b' g' I => by cases I; simp⟩
  rw [boxO?_ag (hA b (by simp)), H]; rfl
 ·cases h
def rY : AV → Option Nat
 | .msw b _ => some b
 | .ms b _ _ _ => some b
 | _ => none
theorem MX {t : TypeId} {x : AV} {i : Int} (h : p7 P t mem x i = some out) (hA : Ag out.rd mem mem') : p7 P t mem' x i = some out ∧ ∀ b, rY x = some b → b ∈ out.rd := by
 unfold p7 at h ⊢
 split at h
 ·rw [bind_some] at h; obtain ⟨s, hs, h⟩ := h
  simp only [hs, ye]
  split at h
  ·rename_i b g o n
   rw [bind_some] at h; obtain ⟨M, H, h⟩ := h
   have J := h
   rw [aA] at h; obtain ⟨_, h⟩ := h
   obtain rfl := ya h
   refine ⟨?_, fun K I => by cases I; simp⟩
   rw [boxO?_ag (hA b (by simp)), H]; exact J
  ·rename_i b g
   rw [bind_some] at h; obtain ⟨M, H, h⟩ := h
   have J := h
   rw [aA] at h; obtain ⟨_, h⟩ := h
   obtain rfl := ya h
   refine ⟨?_, fun K I => by cases I; simp⟩
   rw [boxO?_ag (hA b (by simp)), H]; exact J
  ·cases h
 ·cases h
theorem Mc {t : TypeId} {x : AV} {K M N : Option Int} (h : pI P t mem x K M N = some out) (hA : Ag out.rd mem mem') : pI P t mem' x K M N = some out ∧ ∀ b, rY x = some b → b ∈ out.rd := by
 unfold pI at h ⊢
 split at h
 ·rw [bind_some] at h; obtain ⟨s, hs, h⟩ := h
  simp only [hs, ye]
  split at h
  ·rename_i b g o n
   rw [bind_some] at h; obtain ⟨O, H, h⟩ := h
   have J := h
   rw [aA] at h; obtain ⟨_, h⟩ := h
   obtain ⟨q, _, rfl⟩ := yc.1 h
   refine ⟨?_, fun U I => by cases I; simp⟩
   rw [boxO?_ag (hA b (by simp)), H]; exact J
  ·rename_i b g
   rw [bind_some] at h; obtain ⟨O, H, h⟩ := h
   have J := h
   rw [aA] at h; obtain ⟨_, h⟩ := h
   obtain ⟨q, _, rfl⟩ := yc.1 h
   refine ⟨?_, fun U I => by cases I; simp⟩
   rw [boxO?_ag (hA b (by simp)), H]; exact J
  ·cases h
 ·cases h
theorem Li {own : Bool} {t O : TypeId} {rs : Nat} {x y : AV} (h : lS P own t O mem rs x y = some out) (hA : Ag out.rd mem mem') : lS P own t O mem' rs x y = some out ∧ ∀ b, rY x = some b → b ∈ out.rd := by
 unfold lS at h ⊢
 rw [bind_some] at h; obtain ⟨et, N, h⟩ := h
 rw [bind_some] at h; obtain ⟨s, hs, h⟩ := h
 rw [bind_some] at h; obtain ⟨bytes, K, h⟩ := h
 rw [bind_some] at h; obtain ⟨z, U, h⟩ := h
 rw [bind_some] at h; obtain ⟨ls, M, h⟩ := h
 rw [bind_some] at h; obtain ⟨V, J, h⟩ := h
 simp only [N, hs, K, U, M, ye]
 have I : (∀ b ∈ V.2, b ∈ out.rd) ∧ ∀ b, rY x = some b → b ∈ out.rd := by
  split at h
  ·rw [aA] at h; obtain ⟨_, h⟩ := h
   split at h
   ·rw [aA] at h; obtain ⟨_, h⟩ := h
    rw [bind_some] at h; obtain ⟨q, _, h⟩ := h
    rw [aA] at h; obtain ⟨_, h⟩ := h
    obtain rfl := ya h
    exact ⟨fun b H => H, fun b H => by cases H⟩
   ·rw [bind_some] at h; obtain ⟨W, _, h⟩ := h
    split at h
    ·rw [bind_some] at h; obtain ⟨q, _, h⟩ := h
     rw [aA] at h; obtain ⟨_, h⟩ := h
     obtain rfl := ya h
     exact ⟨fun b H => yh _ H, fun b H => by cases H; simp⟩
    ·cases h
   ·rw [bind_some] at h; obtain ⟨W, _, h⟩ := h
    split at h
    ·rw [bind_some] at h; obtain ⟨q, _, h⟩ := h
     rw [aA] at h; obtain ⟨_, h⟩ := h
     obtain rfl := ya h
     exact ⟨fun b H => yh _ H, fun b H => by cases H; simp⟩
    ·cases h
   ·cases h
  ·cases h
 refine ⟨?_, I.2⟩
 rw [z4 J (hA.sub I.1), ye]
 split at h
 ·rw [aA] at h ⊢; obtain ⟨Y, h⟩ := h
  refine ⟨Y, ?_⟩
  split at h
  ·exact h
  ·rename_i b g
   rw [boxO?_ag (hA b (I.2 b rfl))]; exact h
  ·rename_i b g n
   rw [boxO?_ag (hA b (I.2 b rfl))]; exact h
  ·exact h
 ·exact h
theorem iM {ρ : Operand → Option AV} {p H : AV → Bool} {x : Operand} {v : AV} (I : ρ x = some v) (h : H v = p v) : lJ ρ H x = lJ ρ p x := by unfold lJ; rw [I]; exact h
theorem Dc {v : AV} (h : ∀ b g i c, v = .ptr b g i c → mem'[b]? = mem[b]?) : H0 mem' v = H0 mem v := by
 cases v with
 | ptr b g i c => exact zT (h b g i c rfl)
 | _ => rfl
theorem wT {v : AV} (h : ∀ b, rY v = some b → mem'[b]? = mem[b]?) : zQ mem' v = zQ mem v := by
 cases v with
 | msw b g => exact zT (h b rfl)
 | ms b g o n => exact zT (h b rfl)
 | _ => rfl
theorem L9 {v : AV} (h : ∀ b g, v = .msw b g → mem'[b]? = mem[b]?) : If mem' v = If mem v := by
 cases v with
 | msw b g => exact zT (h b g rfl)
 | _ => rfl
theorem JO {t : TypeId} {b g i c : Nat} (h : iU P t mem (.ptr b g i c) = some out) : b ∈ out.rd := by
 unfold iU at h
 simp only at h
 rw [bind_some] at h; obtain ⟨x, hx, h⟩ := h
 split at h
 ·rw [bind_some] at h; obtain ⟨ag, _, h⟩ := h
  cases ag with
  | true =>
   simp only [yl] at h
   rw [bind_some] at h; obtain ⟨n, _, h⟩ := h
   rw [aA] at h; obtain ⟨_, h⟩ := h
   obtain rfl := ya h; simp
  | false =>
   simp only [yk] at h
   obtain ⟨v, _, rfl⟩ := yc.1 h; simp
 ·rw [aA] at h; obtain ⟨_, h⟩ := h
  rw [aA] at h; obtain ⟨_, h⟩ := h
  obtain ⟨v, _, rfl⟩ := yc.1 h; simp
 ·rw [bind_some] at h; obtain ⟨y, _, h⟩ := h
  obtain ⟨v, _, rfl⟩ := yc.1 h; simp
 ·cases h
theorem Mq {t : TypeId} {x : AV} {b g i c : Nat} (h : iO P t mem (.ptr b g i c) x = some out) : b ∈ out.rd := by
 unfold iO at h
 simp only at h
 rw [bind_some] at h; obtain ⟨bx, H, h⟩ := h
 rw [bind_some] at h; obtain ⟨n, _, h⟩ := h
 rw [aA] at h; obtain ⟨_, h⟩ := h
 split at h
 ·rw [aA] at h; obtain ⟨_, h⟩ := h
  obtain rfl := ya h; simp
 ·split at h
  ·rw [aA] at h; obtain ⟨_, h⟩ := h
   obtain rfl := ya h; simp
  ·simp at h
 ·rw [bind_some] at h; obtain ⟨p, _, h⟩ := h
  rw [bind_some] at h; obtain ⟨q, _, h⟩ := h
  rw [aA] at h; obtain ⟨_, h⟩ := h
  obtain rfl := ya h; simp
 ·cases h
theorem AT {x : AV} {b : Nat} (h : rY x = some b) : (∃ g, x = .msw b g) ∨ ∃ g o n, x = .ms b g o n := by
 unfold rY at h
 split at h
 ·cases h; exact .inl ⟨_, rfl⟩
 ·cases h; exact .inr ⟨_, _, _, rfl⟩
 ·cases h
theorem ME {t : TypeId} {x : AV} {I J K : Option Int} {b : Nat} (h : fV P t mem x I J K = some out) (H : rY x = some b) : b ∈ out.rd := by
 unfold fV at h
 rcases AT H with ⟨g, rfl⟩ | ⟨g, o, n, rfl⟩ <;> simp only at h <;> split at h
 ·cases h
 ·rw [bind_some] at h; obtain ⟨s, _, h⟩ := h
  rw [bind_some] at h; obtain ⟨x, _, h⟩ := h
  rw [aA] at h; obtain ⟨_, h⟩ := h
  obtain ⟨q, _, rfl⟩ := yc.1 h; simp
 ·rw [bind_some] at h; obtain ⟨s, _, h⟩ := h; cases h
 ·cases h
 ·cases h
 ·rw [bind_some] at h; obtain ⟨s, _, h⟩ := h
  rw [bind_some] at h; obtain ⟨x, _, h⟩ := h
  rw [aA] at h; obtain ⟨_, h⟩ := h
  obtain ⟨q, _, rfl⟩ := yc.1 h; simp
 ·rw [bind_some] at h; obtain ⟨s, _, h⟩ := h; cases h
 ·cases h
theorem MW {t : TypeId} {x : AV} {i : Int} {b : Nat} (h : gX P t mem x i = some out) (H : rY x = some b) : b ∈ out.rd := by
 unfold gX at h
 rcases AT H with ⟨g, rfl⟩ | ⟨g, o, n, rfl⟩ <;> simp only at h <;> split at h
 ·rw [bind_some] at h; obtain ⟨s, _, h⟩ := h
  rw [bind_some] at h; obtain ⟨x, _, h⟩ := h
  rw [aA] at h; obtain ⟨_, h⟩ := h
  obtain rfl := ya h; simp
 ·rw [bind_some] at h; obtain ⟨s, _, h⟩ := h; cases h
 ·cases h
 ·rw [bind_some] at h; obtain ⟨s, _, h⟩ := h
  rw [bind_some] at h; obtain ⟨x, _, h⟩ := h
  rw [aA] at h; obtain ⟨_, h⟩ := h
  obtain rfl := ya h; simp
 ·rw [bind_some] at h; obtain ⟨s, _, h⟩ := h; cases h
 ·cases h
theorem Ku {boxed vars : Bool} {t K : TypeId} {rs : Nat} {x y : AV} {b : Nat} (h : gN P boxed vars t K mem rs x y = some out) (I : rY x = some b) : b ∈ out.rd := by
 unfold gN at h
 rw [bind_some] at h; obtain ⟨et, N, h⟩ := h
 rw [bind_some] at h; obtain ⟨s, hs, h⟩ := h
 rw [bind_some] at h; obtain ⟨bytes, M, h⟩ := h
 rw [bind_some] at h; obtain ⟨z, hz, h⟩ := h
 rw [bind_some] at h; obtain ⟨yv, J, h⟩ := h
 rw [aA] at h; obtain ⟨_, h⟩ := h
 rcases AT I with ⟨g, H⟩ | ⟨g, o, n, H⟩ <;> subst H <;> try simp only at h
 ·rw [bind_some] at h; obtain ⟨x, _, h⟩ := h
  rw [bind_some] at h; obtain ⟨x, _, h⟩ := h
  rw [aA] at h; obtain ⟨_, h⟩ := h
  obtain rfl := ya h; simp
 ·cases o with
  | zero =>
   try simp only at h
   rw [bind_some] at h; obtain ⟨x, _, h⟩ := h
   rw [bind_some] at h; obtain ⟨x, _, h⟩ := h
   rw [bind_some] at h; obtain ⟨x, _, h⟩ := h
   rw [aA] at h; obtain ⟨_, h⟩ := h
   obtain rfl := ya h; simp
  | succ o => cases h
theorem Pt {own : Bool} {o : Oper} {ρ : Operand → Option AV} {rs : Nat} (h : F3 P own false o ρ mem rs = some out) (hA : Ag out.rd mem mem') :
  F3 P own false o ρ mem' rs = some out ∧ (bG own ρ mem o.op = true → bG own ρ mem' o.op = true) := by
 unfold F3 at h ⊢
 split at h <;> rename_i J
 ·exact ⟨h, fun I => by rw [J] at I ⊢; exact I⟩
 ·exact ⟨h, fun I => by rw [J] at I ⊢; exact I⟩
 ·exact ⟨h, fun I => by rw [J] at I ⊢; exact I⟩
 ·exact ⟨h, fun I => by rw [J] at I ⊢; exact I⟩
 ·rw [bind_some] at h; obtain ⟨a, W, h⟩ := h
  obtain ⟨M, N⟩ := IZ h hA
  refine ⟨by simp only [W, ye]; exact M, fun I => ?_⟩
  rw [J] at I ⊢
  simp only [bG] at I ⊢
  rw [iM (p := H0 mem) W (Dc fun b g i c K => hA b (N b g i c K))]; exact I
 ·rw [bind_some] at h; obtain ⟨a, W, h⟩ := h
  rw [bind_some] at h; obtain ⟨x, U, h⟩ := h
  obtain ⟨M, N⟩ := Mo h hA
  refine ⟨by simp only [W, U, ye]; exact M, fun I => ?_⟩
  rw [J] at I ⊢
  simp only [bG] at I ⊢
  rw [iM (p := H0 mem) W (Dc fun b g i c K => hA b (N b g i c K))]; exact I
 ·rw [bind_some] at h; obtain ⟨x, U, h⟩ := h
  rw [bind_some] at h; obtain ⟨lo, hlo, h⟩ := h
  rw [bind_some] at h; obtain ⟨I, hhi, h⟩ := h
  rw [bind_some] at h; obtain ⟨mx, Z, h⟩ := h
  obtain ⟨M, N⟩ := Mc h hA
  refine ⟨by simp only [U, hlo, hhi, Z, ye]; exact M, fun I => ?_⟩
  rw [J] at I ⊢
  simp only [bG] at I ⊢
  rw [iM (p := zQ mem) U (wT fun b K => hA b (N b K))]; exact I
 ·rw [bind_some] at h; obtain ⟨x, U, h⟩ := h
  rw [bind_some] at h; obtain ⟨ix, Y, h⟩ := h
  split at h
  ·obtain ⟨M, N⟩ := MX h hA
   refine ⟨by simp only [U, Y, ye]; exact M, fun I => ?_⟩
   rw [J] at I ⊢
   simp only [bG] at I ⊢
   rw [iM (p := zQ mem) U (wT fun b K => hA b (N b K))]; exact I
  ·cases h
 ·rename_i c
  obtain ⟨cal, args, ts⟩ := c
  rw [bind_some] at h; obtain ⟨as, H, h⟩ := h
  simp only at h H J
  split at h
  ·rename_i b
   unfold kR at h
   split at h
   ·rename_i t x O
    obtain ⟨M, N⟩ := Oy h hA
    refine ⟨by simp only [H, ye, kR, O]; exact M, fun I => ?_⟩
    rw [J] at I ⊢
    simp only [bG] at I ⊢
    cases V : args.toList with
    | nil => rw [V] at H; cases H
    | cons a0 l0 =>
     rw [V] at I H
     cases l0 with
     | cons _ _ => cases I
     | nil =>
      simp only [m7] at H
      rw [bind_some] at H; obtain ⟨v, hv, H⟩ := H
      simp at H; subst H
      simp only at I ⊢
      rw [iM (p := If mem) hv (L9 fun b g K => hA b (N b g K))]; exact I
   ·rename_i t tx x y O
    obtain ⟨M, N⟩ := Li h hA
    refine ⟨by simp only [H, ye, kR, O]; exact M, fun I => ?_⟩
    rw [J] at I ⊢
    simp only [bG] at I ⊢
    cases V : args.toList with
    | nil => rw [V] at H; cases H
    | cons a0 l0 =>
     rw [V] at I H
     cases l0 with
     | nil => cases I
     | cons a1 l1 =>
      cases l1 with
      | cons _ _ => cases I
      | nil =>
       simp only [m7] at H
       rw [bind_some] at H; obtain ⟨v, hv, H⟩ := H
       obtain ⟨l, hl', H⟩ := yc.1 H
       simp only [List.cons.injEq] at H
       obtain ⟨rfl, _⟩ := H
       simp only at I ⊢
       rw [iM (p := zQ mem) hv (wT fun b K => hA b (N b K))]; exact I
   ·cases h
  ·cases h
 ·cases h
theorem JX {boxed vars : Bool} {ts : List TypeId} {rs b g : Nat} (h : d4 P boxed vars .len ts mem rs [.msw b g] = some out) : b ∈ out.rd := by
 match ts, h with
 | [t], h =>
  have h : (lenOf P t mem (.msw b g)).map (fun n => ({ v := .lit (.int .i64 (n.1 : Int)), rd := n.2 } : dD)) = some out := h
  obtain ⟨n, hn, rfl⟩ := yc.1 h
  unfold lenOf at hn
  split at hn
  ·cases hn
  ·simp only at hn
   obtain ⟨x, _, rfl⟩ := yc.1 hn; simp
  ·cases hn
 | [], h => cases h
 | _ :: _ :: _, h => cases h
theorem Ei {boxed vars : Bool} {ts : List TypeId} {rs b : Nat} {x y : AV} (h : d4 P boxed vars .append ts mem rs [x, y] = some out) (H : rY x = some b) : b ∈ out.rd := by
 match ts, h with
 | [t, I], h =>
  have h : gN P boxed vars t I mem rs x y = some out := by
   rcases AT H with ⟨g, rfl⟩ | ⟨g, o, n, rfl⟩ <;> exact h
  exact Ku h H
 | [], h => cases x <;> cases y <;> cases h
 | [_], h => cases x <;> cases y <;> cases h
 | _ :: _ :: _ :: _, h => cases x <;> cases y <;> cases h
theorem Po {C : bQ} {own boxed raw vars : Bool} {o : Oper} {ρ : Operand → Option AV} {rs : Nat} (Z : kS o = true → mem'.length = mem.length) (h : F9 P C own false boxed raw vars o ρ mem rs = some out) (hA : Ag out.rd mem mem') :
  F9 P C own false boxed raw vars o ρ mem' rs = some out := by
 unfold F9 at h ⊢
 cases N : bG own ρ mem o.op with
 | true =>
  rw [N] at h; simp only [yl] at h
  obtain ⟨Y, h2⟩ := Pt h hA
  rw [h2 N]; exact Y
 | false =>
  rw [N] at h; simp only [yk] at h
  have h' := Ph Z h hA
  have : bG own ρ mem' o.op = false := by
   rw [← N]
   unfold Ly wM wQ wH BU at h
   split at h <;> rename_i M <;> first | (cases h; done) | (rw [M]; try rfl)
   ·rw [bind_some] at h; obtain ⟨a, U, h⟩ := h
    exact iM (p := H0 mem) U (Dc fun b g i c I => hA b (by subst I; exact JO h))
   ·rw [bind_some] at h; obtain ⟨a, U, h⟩ := h
    rw [bind_some] at h; obtain ⟨x, O, h⟩ := h
    exact iM (p := H0 mem) U (Dc fun b g i c I => hA b (by subst I; exact Mq h))
   ·rw [bind_some] at h; obtain ⟨x, O, h⟩ := h
    rw [bind_some] at h; obtain ⟨lo, hlo, h⟩ := h
    rw [bind_some] at h; obtain ⟨hi, hhi, h⟩ := h
    rw [bind_some] at h; obtain ⟨mx, hmx, h⟩ := h
    exact iM (p := zQ mem) O (wT fun b I => hA b (ME h I))
   ·rw [bind_some] at h; obtain ⟨x, O, h⟩ := h
    rw [bind_some] at h; obtain ⟨ix, hix, h⟩ := h
    split at h
    ·exact iM (p := zQ mem) O (wT fun b I => hA b (MW h I))
    ·cases h
   ·rename_i c
    obtain ⟨W, args, ts⟩ := c
    rw [bind_some] at h; obtain ⟨as, H, h⟩ := h
    simp only at h H M ⊢
    simp only [bG]
    split
    ·rename_i x K
     rw [K] at H
     simp only [m7] at H
     rw [bind_some] at H; obtain ⟨v, V, H⟩ := H
     simp at H; subst H
     exact iM (p := If mem) V (L9 fun b g I => hA b (by subst I; exact JX h))
    ·rename_i x y K
     rw [K] at H
     simp only [m7] at H
     rw [bind_some] at H; obtain ⟨v, V, H⟩ := H
     obtain ⟨l, J, H⟩ := yc.1 H
     subst H
     congr 1
     refine iM (p := zQ mem) V (wT fun b I => hA b ?_)
     rw [bind_some] at J; obtain ⟨u, hu, J⟩ := J
     simp at J; subst J
     exact Ei h I
    ·rfl
  rw [this]; exact h'
theorem I0 {own : Bool} {o : Oper} {ρ ρ' : Operand → Option AV} (h : ∀ x ∈ o.op.operands, ρ' x = ρ x) : bG own ρ' mem o.op = bG own ρ mem o.op := by
 obtain ⟨dst, op, J, K, I, guard⟩ := o
 have ask : ∀ {p : AV → Bool} {x : Operand}, ρ' x = ρ x → lJ ρ' p x = lJ ρ p x := fun h => by unfold lJ; rw [h]
 cases op <;> simp only [Op.operands] at h <;> simp only [bG]
 case load t a => exact ask (h a (by simp))
 case store t a x => exact ask (h a (by simp))
 case slice t x lo hi mx => exact ask (h x (by simp))
 case indexAddr t x ix => exact ask (h x (by simp))
 case call c =>
  obtain ⟨M, args, ts⟩ := c
  simp only [Call.operands] at h
  simp only
  split
  ·rename_i x H
   exact ask (h x (Array.mem_append.2 (.inr (by rw [← Array.mem_toList_iff, H]; simp))))
  ·rename_i x y H
   rw [ask (h x (Array.mem_append.2 (.inr (by rw [← Array.mem_toList_iff, H]; simp))))]
  ·rfl
theorem Oq {own tk : Bool} {o : Oper} {ρ ρ' : Operand → Option AV} {rs : Nat} (h : ∀ x ∈ o.op.operands, ρ' x = ρ x) : F3 P own tk o ρ' mem rs = F3 P own tk o ρ mem rs := by
 obtain ⟨dst, op, K, M, J, guard⟩ := o
 cases op <;> simp only [Op.operands] at h <;> simp only [F3, A9, GH]
 case buildSlice t n ps => rw [lM (fun x I => h x (by simpa using I))]
 case slice t x lo hi mx =>
  rw [h x (by simp), j8 (x := lo) fun y H => h y (by simp [H]), j8 (x := hi) fun y H => h y (by simp [H]), j8 (x := mx) fun y H => h y (by simp [H])]
 case call c =>
  obtain ⟨N, args, ts⟩ := c
  simp only [Call.operands] at h
  rw [mZ (xs := args.toList) fun x I => h x (by simp at I ⊢; exact .inr I)]
 all_goals (first | rfl | (simp_all; done))
theorem OD {C : bQ} {own tk boxed raw vars : Bool} {o : Oper} {ρ ρ' : Operand → Option AV} {rs : Nat} (h : ∀ x ∈ o.op.operands, ρ' x = ρ x) : F9 P C own tk boxed raw vars o ρ' mem rs = F9 P C own tk boxed raw vars o ρ mem rs := by
 unfold F9
 rw [I0 h, Oq h, OY h]
end
end Go.Ab
end
section
namespace Go.Ab
variable [b4]
structure jC where
 v : AV
 wr : List (Nat × a9)
 push : aH
 tr : Option Tr
noncomputable def jC.app (e : jC) (dst : Option Tmp) (st : St) : St := { tmps := lZ st.tmps dst e.v, mem := aJ st.mem e.wr ++ e.push }
section
variable {P : Program}
inductive jH (P : Program) (C : bQ) (an : lA) (rid : Nat) (ops : Array Oper) (o : Oper) (i rs : Nat) (st : St) : jC → Prop
 | run (out : dD) (hres : dY o.op = true → x9 st.mem rs = true) (h : F9 P C (a7 rid i an.own) false (a7 rid i an.boxed) (a7 rid i an.raw) (a7 rid i an.vars) o (bW st.tmps) st.mem rs = some out)
   (hg : ∀ j want, o.guard = some (j, want) → ∃ d, (ops[j]?).bind (·.dst) = some d ∧ st.tmps[d]? = some (.lit (.bool want))) :
   jH P C an rid ops o i rs st { v := out.v, wr := out.wr, push := out.push, tr := some (out.tr (dY o.op) rs i o.op st.mem) }
 | skip (j : Nat) (want : Bool) (d : Nat) (hg : o.guard = some (j, want)) (hd : (ops[j]?).bind (·.dst) = some d)
   (h : st.tmps[d]? = some (.lit (.bool (!want))) ∨ ∃ x, st.tmps[d]? = some (.lit (.tuple x))) : jH P C an rid ops o i rs st { v := .lit undef, wr := [], push := [], tr := none }
theorem Same.eq {st H : St} (h : H.mem = st.mem ∧ ∀ t : Nat, H.tmps[t]? = st.tmps[t]?) : H = st := by
 obtain ⟨t1, m1⟩ := H
 obtain ⟨t, m⟩ := st
 simp only at h
 obtain ⟨rfl, h⟩ := h
 rw [List.ext_getElem? h]
variable {C : bQ} {an : lA} {rid : Nat} {ops : Array Oper}
theorem sP.two {o : Oper} {i rs : Nat} {st K : St} {t : Option Tr} (h : sP P C an false rid ops o i rs st K t) : ∃ e, jH P C an rid ops o i rs st e ∧ e.tr = t ∧ K = e.app o.dst st := by
 cases h with
 | run out N H I U M =>
  obtain rfl := Same.eq H
  exact ⟨_, .run out I U M, rfl, rfl⟩
 | skip N H j J d M O h =>
  obtain rfl := Same.eq H
  exact ⟨_, .skip j J d M O h, rfl, by simp [jC.app, aJ]⟩
theorem jH.one {o : Oper} {i rs : Nat} {st : St} {e : jC} (h : jH P C an rid ops o i rs st e) : sP P C an false rid ops o i rs st (e.app o.dst st) e.tr := by
 cases h with
 | run out H K J => exact .run out st ⟨rfl, fun _ => rfl⟩ H K J
 | skip j I d J M h =>
  have := sP.skip (P := P) (C := C) (an := an) (tk := false) (rid := rid) (ops := ops) (o := o) (i := i) (rs := rs) (st := st) st ⟨rfl, fun _ => rfl⟩ j I d J M h
  simpa [jC.app, aJ] using this
def Og (ops : Array Oper) (o : Oper) (d : Nat) : Prop := d ∈ o.looksAt ops
def Py (L : Nat) (all : List Tr) (e : jC) (b : Nat) : Prop := ∃ t, e.tr = some t ∧ (b ∈ (F0 L all t).rd ∨ b ∈ t.wr)
def vO (S F : Nat → Prop) (st st' : St) : Prop := (∀ d : Nat, S d → st'.tmps[d]? = st.tmps[d]?) ∧ (∀ b : Nat, F b → st'.mem[b]? = st.mem[b]?)
theorem J3 {v : AV} {q : Nat × Nat × Nat × Nat} (h : nN v = some q) : v = .ptr q.1 q.2.1 q.2.2.1 q.2.2.2 := by
 unfold nN at h
 split at h
 ·cases h; rfl
 ·cases h
theorem NW {t : TypeId} {mem mem' : aH} {a : AV} {out : dD} (h : iU P t mem a = some out) (W : (nN out.v).isSome = true) {b : Nat} (V : out.rd = [b]) (O : (aT mem b).isSome = true) (J : aT mem' b = aT mem b) : iU P t mem' a = some out := by
 unfold iU at h ⊢
 cases a with
 | ptr b' g i c =>
  simp only at h ⊢
  rw [bind_some] at h
  obtain ⟨bx, H, h⟩ := h
  unfold box? at H
  split at H
  ·rename_i x hx
   have U : Nat.beq x.gen g = true := by
    cases U : Nat.beq x.gen g with
    | true => rfl
    | false => rw [U] at H; cases H
   rw [U] at H
   have K : x.row.isOwn = false := by
    cases K : x.row.isOwn with
    | false => rfl
    | true => rw [K] at H; cases H
   rw [K] at H
   obtain rfl := ya (show some x = some bx from H)
   split at h
   ·rename_i e cs I
    rw [bind_some] at h
    obtain ⟨ag, hag, h⟩ := h
    cases ag with
    | true =>
     simp only [yl] at h
     rw [bind_some] at h
     obtain ⟨n, _, h⟩ := h
     rw [aA] at h
     obtain rfl := (ya h.2)
     simp [nN] at W
    | false =>
     simp only [yk] at h
     obtain ⟨v, hv, rfl⟩ := yc.1 h
     obtain rfl : b' = b := by simpa using V
     obtain ⟨q, hq⟩ := Option.isSome_iff_exists.1 W
     have Z : aT mem b' = some (x.gen, e, cs.map nN) := by unfold aT gS; rw [hx]; simp only [I]
     rw [Z] at J
     unfold aT at J
     split at J
     ·rename_i x' Y
      unfold gS at J
      split at J
      ·rename_i e' N M
       obtain ⟨hg', he', hl'⟩ : x'.gen = x.gen ∧ e' = e ∧ N.map nN = cs.map nN := by
        have := ya J
        simp only [Prod.mk.injEq] at this
        exact this
       unfold box?
       rw [Y]
       simp only [hg', U, Row.isOwn, Bool.not_false, yg3, yl, ye, M, he', hag, yk]
       have : (N.map nN)[i * e + c]? = some (some q) := by rw [hl', yb1, hv]; simp [hq]
       rw [yb1] at this
       obtain ⟨v', hv', hq'⟩ := yc.1 this
       rw [hv', yg, J3 hq', show v = _ from J3 hq]
      ·cases J
     ·cases J
   ·rename_i k xs I
    rw [aA] at h; obtain ⟨_, h⟩ := h
    rw [aA] at h; obtain ⟨_, h⟩ := h
    obtain ⟨y, _, rfl⟩ := yc.1 h
    simp [nN] at W
   ·rename_i β e xs I
    rw [bind_some] at h; obtain ⟨y, _, h⟩ := h
    obtain ⟨u, _, rfl⟩ := yc.1 h
    obtain rfl : b' = b := by simpa using V
    unfold aT gS at O
    rw [hx] at O
    simp only [I] at O
    cases O
   ·cases h
  ·cases H
 | el β p c =>
  simp only at h
  obtain ⟨u, _, rfl⟩ := yc.1 h
  cases V
 | _ => cases h
theorem NI {op : Op} {mem : aH} {v : AV} {rd : List Nat} (h : MA op mem v rd = true) : (∃ t a, op = .load t a) ∧ (nN v).isSome = true ∧ ∃ b, rd = [b] ∧ (aT mem b).isSome = true := by
 unfold MA at h
 simp only [yb] at h
 obtain ⟨⟨I, K⟩, H⟩ := h
 refine ⟨?_, ?_, ?_⟩
 ·unfold Kq at I
  split at I
  ·exact ⟨_, _, rfl⟩
  ·cases I
 ·split at K
  ·rename_i q J; rw [J]; rfl
  ·cases K
 ·split at H
  ·rename_i b
   refine ⟨b, rfl, ?_⟩
   split at H
   ·rename_i q J; rw [J]; rfl
   ·cases H
  ·cases H
theorem OL {L : Nat} {all : List Tr} {t : Tr} : (F0 L all t).rd = t.rd ∨ (t.rc = true ∧ ∃ b, t.rd = [b] ∧ Ki L all b = true) := by
 unfold F0
 cases I : (t.rc && (match t.rd with | [b] => Ki L all b | _ => false)) with
 | false => left; rfl
 | true =>
  right
  simp only [yb] at I
  refine ⟨I.1, ?_⟩
  have H := I.2
  split at H
  ·rename_i b J; exact ⟨b, J, H⟩
  ·cases H
theorem gJ {L : Nat} {all : List Tr} {t : Tr} : (F0 L all t).i = t.i ∧ (F0 L all t).wr = t.wr ∧ (F0 L all t).push = t.push := by
 unfold F0
 cases (t.rc && (match t.rd with | [b] => Ki L all b | _ => false)) <;> exact ⟨rfl, rfl, rfl⟩
theorem jH.agree {L : Nat} {all : List Tr} {o : Oper} {i rs : Nat} {st J : St} {e : jC} (h : jH P C an rid ops o i rs st e) (hA : vO (Og ops o) (Py L all e) st J) (hl : kS o = true → J.mem.length = st.mem.length)
  (hK : ∀ t b, e.tr = some t → Ki L all b = true → t.rc = true → t.rd = [b] → aT J.mem b = aT st.mem b) : ∃ e', jH P C an rid ops o i rs J e' ∧ e'.v = e.v ∧ e'.wr = e.wr ∧ e'.push = e.push := by
 have M : ∀ {j : Nat} {I : Bool} {d : Nat}, o.guard = some (j, I) → (ops[j]?).bind (·.dst) = some d → J.tmps[d]? = st.tmps[d]? := by
  intro j I d Z W
  refine hA.1 d ?_
  unfold Og Oper.looksAt
  rw [Z]
  refine ys1 _ ?_
  simp [W]
 cases h with
 | run out hres H Z =>
  refine ⟨_, .run out (fun hm => ?_) ?_ (fun j I h => ?_), rfl, rfl, rfl⟩
  ·have := hres hm
   unfold x9 at this ⊢
   rw [hA.2 rs ⟨_, rfl, .inr (by simp [dD.tr, hm])⟩]; exact this
  ·have h1 : F9 P C (a7 rid i an.own) false (a7 rid i an.boxed) (a7 rid i an.raw) (a7 rid i an.vars) o (bW st.tmps) J.mem rs = some out := by
    rcases OL (L := L) (all := all) (t := out.tr (dY o.op) rs i o.op st.mem) with hrd | ⟨hrc, b, N, hcst⟩
    ·exact Po (mem' := J.mem) hl H (fun b N => hA.2 b ⟨_, rfl, .inl (by rw [hrd]; simpa [dD.tr] using N)⟩)
    ·obtain ⟨⟨t, a, V⟩, hp, b', hb', K⟩ := NI (show MA o.op st.mem out.v out.rd = true from hrc)
     have N : out.rd = [b] := N
     obtain rfl : b = b' := by rw [N] at hb'; simpa using hb'
     have hke := hK _ b rfl hcst hrc N
     have U : ∀ {m : aH}, (aT m b).isSome = true → vE m b = false := by
      intro m hm
      unfold aT at hm
      unfold vE
      split at hm
      ·rename_i x Y
       unfold gS at hm
       split at hm
       ·rename_i e cs hr; simp only [hr]; rfl
       ·cases hm
      ·cases hm
     have hno : bG (a7 rid i an.own) (bW st.tmps) st.mem o.op = false ∧ bG (a7 rid i an.own) (bW st.tmps) J.mem o.op = false := by
      rw [V]
      simp only [bG, lJ]
      cases Y : bW st.tmps a with
      | none => exact ⟨rfl, rfl⟩
      | some x =>
       cases x with
       | ptr b2 g2 i2 c2 =>
        have hb2 : b2 = b := by
         unfold F9 at H
         cases how : bG (a7 rid i an.own) (bW st.tmps) st.mem o.op with
         | false =>
          rw [how] at H; simp only [yk] at H
          unfold Ly at H
          rw [V] at H
          simp only at H
          rw [bind_some] at H; obtain ⟨x, O, H⟩ := H
          rw [Y] at O; obtain rfl := ya O
          have := JO H
          rw [N] at this; simpa using this
         | true =>
          rw [how] at H; simp only [yl] at H
          unfold F3 at H
          rw [V] at H
          simp only at H
          rw [bind_some] at H; obtain ⟨x, O, H⟩ := H
          rw [Y] at O; obtain rfl := ya O
          have := (IZ H (fun _ _ => rfl)).2 b2 g2 i2 c2 rfl
          rw [N] at this; simpa using this
        subst hb2
        exact ⟨U K, U (by rw [hke]; exact K)⟩
       | _ => exact ⟨rfl, rfl⟩
     unfold F9 at H ⊢
     rw [hno.1] at H
     rw [hno.2]
     simp only [yk] at H ⊢
     unfold Ly at H ⊢
     rw [V] at H ⊢
     simp only at H ⊢
     rw [bind_some] at H ⊢
     obtain ⟨x, Y, H⟩ := H
     exact ⟨x, Y, NW H hp N K hke⟩
   rw [← h1]
   refine OD fun x Y => ?_
   cases x with
   | tmp t =>
    simp only [bW, CV, aX]
    rw [hA.1 t]
    unfold Og Oper.looksAt
    exact yq1 _ (List.mem_filterMap.2 ⟨.tmp t, by simpa using Y, rfl⟩)
   | const v => rfl
   | func f => rfl
   | global g => rfl
  ·obtain ⟨d, W, N⟩ := Z j I h
   exact ⟨d, W, by rw [M h W]; exact N⟩
 | skip j I d Z W h =>
  refine ⟨_, .skip j I d Z W ?_, rfl, rfl, rfl⟩
  rw [M Z W]; exact h
noncomputable def cO (D : Nat → Bool) : Nat → List (Oper × jC) → St → St
 | _, [], st => st
 | i, (o, e) :: r, st => cO D (i + 1) r (bif D i then e.app o.dst st else st)
theorem nE {D D' : Nat → Bool} : ∀ {l : List (Oper × jC)} {i : Nat} {st : St}, (∀ k, i ≤ k → k < i + l.length → D k = D' k) → cO D i l st = cO D' i l st
 | [], i, st, _ => rfl
 | (o, e) :: r, i, st, h => by
  simp only [cO]
  rw [h i (yy _) (by simp)]
  exact nE fun k h1 H => h k (by omega) (by simp at H ⊢; omega)
inductive Cc (P : Program) (C : bQ) (an : lA) (rid : Nat) (ops : Array Oper) : Nat → Nat → St → List (Oper × jC) → Prop
 | nil (i rs : Nat) (st : St) : Cc P C an rid ops i rs st []
 | cons (o : Oper) (e : jC) (r : List (Oper × jC)) (i rs : Nat) (st : St) (h : jH P C an rid ops o i rs st e) (hr : Cc P C an rid ops (i + 1) (bif dY o.op then rs + 1 else rs) (e.app o.dst st) r) :
   Cc P C an rid ops i rs st ((o, e) :: r)
variable {R : Type}
theorem FC {k : St → List Tr → Option R} {r : R} : ∀ {rest : List Oper} {i rs : Nat} {st : St} {tr : List Tr}, rN P C an false rid (ops.toList.map (·.dst)) rest i rs st tr k = some r →
  ∃ l, l.map (·.1) = rest ∧ Cc P C an rid ops i rs st l ∧ k (cO (fun _ => true) i l st) ((l.filterMap (·.2.tr)).reverse ++ tr) = some r
 | [], i, rs, st, tr, h => ⟨[], rfl, .nil i rs st, by simpa [rN, cO] using h⟩
 | o :: rest, i, rs, st, tr, h => by
  obtain ⟨O, t, H, N⟩ := Gx h
  obtain ⟨e, I, rfl, rfl⟩ := H.two
  obtain ⟨l, M, K, J⟩ := FC N
  refine ⟨(o, e) :: l, by simp [M], .cons o e l i rs st I K, ?_⟩
  simp only [cO, yl]
  have : ((((o, e) :: l).filterMap (·.2.tr)).reverse ++ tr) = (l.filterMap (·.2.tr)).reverse ++ (e.tr.toList ++ tr) := by
   cases ht : e.tr with
   | none => simp [List.filterMap_cons, ht]
   | some t => simp [List.filterMap_cons, ht]
  rw [this]; exact J
theorem zE {D : Nat → Bool} : ∀ {l : List (Oper × jC)} {i : Nat} {st : St}, (∀ k, i ≤ k → D k = false) → cO D i l st = st
 | [], i, st, _ => rfl
 | (o, e) :: r, i, st, h => by
  simp only [cO, h i (yy _), yk]
  exact zE fun k hk => h k (by omega)
theorem Cc.get : ∀ {l : List (Oper × jC)} {i rs : Nat} {st : St} {j : Nat} {o : Oper} {e : jC}, Cc P C an rid ops i rs st l → l[j]? = some (o, e) → ∃ H, jH P C an rid ops o (i + j) H (cO (fun k => Nat.blt k (i + j)) i l st) e
 | [], i, rs, st, j, o, e, _, h => by simp at h
 | (N, e') :: l, i, rs, st, 0, o, e, I, h => by
  cases I with
  | cons _ _ _ _ _ _ J hr =>
   simp at h; obtain ⟨rfl, rfl⟩ := h
   refine ⟨rs, ?_⟩
   rw [zE (fun k hk => by cases M : Nat.blt k (i + 0) with | false => rfl | true => simp [Nat.blt] at M; omega)]
   exact J
 | (N, e') :: l, i, rs, st, j + 1, o, e, I, h => by
  cases I with
  | cons _ _ _ _ _ _ J hr =>
   obtain ⟨H, K⟩ := hr.get (j := j) (by simpa using h)
   refine ⟨H, ?_⟩
   rw [show i + 1 + j = i + (j + 1) by omega] at K
   simp only [cO]
   have : Nat.blt i (i + (j + 1)) = true := by simp [Nat.blt]
   rw [this]; exact K
theorem M3 {m H : aH} {b : Nat} (h : H[b]? = m[b]?) : ∀ {wr : List (Nat × a9)}, (aJ H wr)[b]? = (aJ m wr)[b]? := by
 intro wr
 induction wr generalizing m H with
 | nil => exact h
 | cons q r M =>
  obtain ⟨c, x⟩ := q
  simp only [aJ]
  refine M ?_
  rw [List.getElem?_set, List.getElem?_set]
  by_cases K : c = b
  ·subst K
   simp only [if_true]
   by_cases J : c < m.length
   ·have : c < H.length := by
     rcases yc2 c H.length with I | I
     ·exact I
     ·rw [ya1 I, yf J] at h; cases h
    rw [if_pos J, if_pos this]
   ·have : ¬ c < H.length := by
     intro I
     rw [yf I, ya1 (by omega)] at h; cases h
    rw [if_neg J, if_neg this]
  ·rw [if_neg K, if_neg K]; exact h
theorem Kx {m : aH} {b : Nat} : ∀ {wr : List (Nat × a9)}, (∀ q ∈ wr, q.1 ≠ b) → (aJ m wr)[b]? = m[b]? := by
 intro wr
 induction wr generalizing m with
 | nil => intro _; rfl
 | cons q r I =>
  obtain ⟨c, x⟩ := q
  intro h
  simp only [aJ]
  rw [I (fun q H => h q (yh _ H)), yp (h (c, x) (ym ..))]
theorem Kp {m : aH} {c : Nat} {x : Option a9} : ∀ {wr : List (Nat × a9)}, (∀ q ∈ wr, q.1 ≠ c) → aJ (m.set c x) wr = (aJ m wr).set c x := by
 intro wr
 induction wr generalizing m with
 | nil => intro _; rfl
 | cons q r I =>
  obtain ⟨d, y⟩ := q
  intro h
  simp only [aJ]
  rw [List.set_comm _ _ (fun e => h (d, y) (ym ..) e.symm), I (fun q H => h q (yh _ H))]
theorem Jr {m : aH} {a : List (Nat × a9)} : ∀ {b : List (Nat × a9)}, (∀ q ∈ b, ∀ I ∈ a, q.1 ≠ I.1) → aJ (aJ m a) b = aJ (aJ m b) a := by
 intro b
 induction b generalizing m with
 | nil => intro _; rfl
 | cons q r K =>
  obtain ⟨c, x⟩ := q
  intro h
  simp only [aJ]
  rw [← K (fun q J => h q (yh _ J)), Kp (fun I H e => h (c, x) (ym ..) I H e.symm)]
theorem AP {m p : aH} : ∀ {wr : List (Nat × a9)}, (∀ q ∈ wr, q.1 < m.length) → aJ (m ++ p) wr = aJ m wr ++ p := by
 intro wr
 induction wr generalizing m with
 | nil => intro _; rfl
 | cons q r I =>
  obtain ⟨c, x⟩ := q
  intro h
  simp only [aJ]
  rw [List.set_append_left _ _ (h (c, x) (ym ..)), I (fun q H => by simpa using h q (yh _ H))]
structure Oz (L : Nat) (d1 d2 : Option Tmp) (e1 e2 : jC) : Prop where
 dst : ∀ d, d1 = some d → d2 ≠ some d
 wr : ∀ q ∈ e1.wr, ∀ q' ∈ e2.wr, q.1 ≠ q'.1
 push : e1.push = [] ∨ e2.push = []
 low1 : e1.push ≠ [] → ∀ q ∈ e2.wr, q.1 < L
 low2 : e2.push ≠ [] → ∀ q ∈ e1.wr, q.1 < L
theorem Mx {tmps : List AV} {I H : Option Tmp} {J K : AV} (h : ∀ d, I = some d → H ≠ some d) : lZ (lZ tmps I J) H K = lZ (lZ tmps H K) I J := by
 cases I with
 | none => rfl
 | some a =>
  cases H with
  | none => rfl
  | some b => simp only [lZ, d5]; rw [List.set_comm _ _ (fun e => h a rfl (by rw [e]))]
theorem jC.comm {L : Nat} {W V : Option Tmp} {J I : jC} {st : St} (hm : Oz L W V J I) (Y : L ≤ st.mem.length) : I.app V (J.app W st) = J.app W (I.app V st) := by
 have K : aJ (aJ st.mem J.wr ++ J.push) I.wr ++ I.push = aJ (aJ st.mem I.wr ++ I.push) J.wr ++ J.push := by
  have H := Jr (m := st.mem) (a := J.wr) (b := I.wr) (fun q M Z U e => hm.wr Z U q M e.symm)
  by_cases N : J.push = []
  ·by_cases O : I.push = []
   ·rw [N, O]; simp only [yg1]; exact H
   ·rw [N]; simp only [yg1]
    rw [AP (m := aJ st.mem I.wr) (fun q M => by rw [bU]; exact yh1 (hm.low2 O q M) Y), H]
  ·have O : I.push = [] := hm.push.resolve_left N
   rw [O]; simp only [yg1]
   rw [AP (m := aJ st.mem J.wr) (fun q M => by rw [bU]; exact yh1 (hm.low1 N q M) Y), H]
 simp only [jC.app, K, Mx hm.dst]
end
end Go.Ab
end
section
namespace Go.Ab
variable [b4]
def Bo (ops : Array Oper) (D : Nat → Bool) : Prop := ∀ (j : Nat) (o : Oper), ops[j]? = some o → ∀ e ∈ o.after, Region.binds .any e = true → D j = true → D e.on = true
theorem zA {acc : List Nat} : ∀ {N : List Edge} {i : Nat}, (Bu acc N).testBit i = true → ∃ e ∈ N, Region.binds .any e = true ∧ (i = e.on ∨ (acc.getD e.on 0).testBit i = true)
 | [], i, h => by simp [Bu] at h
 | e :: r, i, h => by
  simp only [Bu] at h
  cases H : Region.binds .any e with
  | true =>
   rw [H] at h; simp only [yl, Nat.testBit_or, yy1] at h
   rcases h with (h | h) | h
   ·refine ⟨e, ym .., H, .inl ?_⟩
    rw [Nat.testBit_two_pow] at h
    exact (of_decide_eq_true h).symm
   ·exact ⟨e, ym .., H, .inr h⟩
   ·obtain ⟨M, I, J, K⟩ := zA h
    exact ⟨M, yh _ I, J, K⟩
  | false =>
   rw [H] at h; simp only [yk] at h
   obtain ⟨M, I, J, K⟩ := zA h
   exact ⟨M, yh _ I, J, K⟩
theorem vA {i : Nat} : ∀ {K : List Edge}, Aa i K = true → ∀ e ∈ K, Region.binds .any e = true → e.on < i
 | [], _, e, H, _ => by simp at H
 | x :: r, h, e, H, J => by
  simp only [Aa, yb, yy1, yq] at h
  rcases yn1.1 H with rfl | H
  ·rcases h.1 with I | I
   ·rw [J] at I; cases I
   ·simp [Nat.blt] at I; omega
  ·exact vA h.2 e H J
theorem nY : ∀ {l : List Oper} {i j : Nat} {o : Oper}, jA l i = true → l[j]? = some o → Aa (i + j) o.after.toList = true
 | [], i, j, o, _, h => by simp at h
 | x :: r, i, 0, o, h, H => by
  simp only [jA, yb] at h
  simp at H; subst H; exact h.1
 | x :: r, i, j + 1, o, h, H => by
  simp only [jA, yb] at h
  have := nY (j := j) h.2 (by simpa using H)
  rw [show i + (j + 1) = i + 1 + j by omega]; exact this
theorem It {ops : Array Oper} (hE : jA ops.toList 0 = true) : ∀ {l : List Oper} {acc : List Nat}, ops.toList.drop acc.length = l → acc.length ≤ ops.size →
  (∀ j i, j < acc.length → (acc.getD j 0).testBit i = true → i < j ∧ ∀ D, Bo ops D → D j = true → D i = true) →
  ∀ j i, ((vK l acc).getD j 0).testBit i = true → i < j ∧ j < ops.size ∧ ∀ D, Bo ops D → D j = true → D i = true
 | [], acc, J, Y, h => by
  intro j i H
  simp only [vK] at H
  by_cases O : j < acc.length
  ·exact ⟨(h j i O H).1, by omega, (h j i O H).2⟩
  ·rw [yi, ya1 (by omega)] at H; simp at H
 | o :: r, acc, J, Y, h => by
  simp only [vK]
  have V : ops[acc.length]? = some o := by
   have : (ops.toList.drop acc.length)[0]? = some o := by rw [J]; rfl
   rw [yz, ym1, yp1] at this; exact this
  have hlt : acc.length < ops.size := (ym2.1 V).1
  refine It hE (l := r) (by rw [yi1, ← List.drop_drop, J]; rfl) (by simp; omega) fun j i O H => ?_
  by_cases K : j < acc.length
  ·rw [yi, yn K, ← yi] at H
   exact h j i K H
  ·have U : j = acc.length := by simp at O; omega
   subst U
   rw [yi, yu (yy _)] at H
   simp only [Nat.sub_self, yq2, Option.getD_some] at H
   obtain ⟨e, Z, I, W⟩ := zA H
   have M := vA (by have := nY (j := acc.length) hE (by rw [yp1]; exact V); rwa [yc1] at this) e Z I
   have N : ∀ D, Bo ops D → D acc.length = true → D e.on = true := fun D hD J => hD acc.length o V e (by simpa using Z) I J
   rcases W with rfl | W
   ·exact ⟨M, N⟩
   ·obtain ⟨h1, h2⟩ := h e.on i M W
    exact ⟨by omega, fun D hD J => h2 D hD (N D hD J)⟩
theorem o8 {ops : Array Oper} (hE : jA ops.toList 0 = true) {j i : Nat} (h : ((vK ops.toList []).getD j 0).testBit i = true) : i < j ∧ ∀ D, Bo ops D → D j = true → D i = true := by
 obtain ⟨H, _, I⟩ := It hE (l := ops.toList) (acc := []) (by simp) (by simp) (fun j i J _ => by simp at J) j i h
 exact ⟨H, I⟩
theorem Eo : ∀ {n a j : Nat}, a ≤ j → j < a + n → j ∈ oE a n
 | 0, a, j, H, I => by omega
 | n + 1, a, j, H, I => by
  simp only [oE]
  rcases yc2 a j with h | h
  ·exact yh _ (Eo (by omega) (by omega))
  ·obtain rfl : j = a := by omega
   exact ym ..
theorem z6 {ops : Array Oper} {bs : List Nat} {i : Nat} : ∀ {l : List Nat}, Az ops bs i l = true → ∀ j ∈ l, c7 bs i j = true ∨ zX ops i j = true
 | [], _, j, H => by simp at H
 | x :: r, h, j, H => by
  simp only [Az, yb, yy1] at h
  rcases yn1.1 H with rfl | H
  ·exact h.1
  ·exact z6 h.2 j H
theorem qJ {ops : Array Oper} {bs : List Nat} : ∀ {n a i j : Nat}, AW ops bs (oE a n) = true → a ≤ i → i < j → j < a + n → c7 bs i j = true ∨ zX ops i j = true
 | 0, a, i, j, _, J, H, M => by omega
 | n + 1, a, i, j, h, J, H, M => by
  simp only [oE, AW, yb] at h
  rcases yc2 a i with I | K
  ·exact qJ h.2 (by omega) H (by omega)
  ·obtain rfl : i = a := by omega
   exact z6 h.1 j (Eo (by omega) (by omega))
theorem CG {bs : List Nat} {i : Nat} : ∀ {l : List Oper} {s j : Nat} {o : Oper}, vZ bs i l s = true → l[j]? = some o → i = s + j ∨ c7 bs i (s + j) = true ∨ kS o = false
 | [], s, j, o, _, h => by simp at h
 | x :: r, s, 0, o, h, H => by
  simp only [vZ, yb, yy1, yq] at h
  simp at H; subst H
  rcases h.1 with (h | h) | h
  ·exact .inl (bJ.1 h)
  ·exact .inr (.inl h)
  ·exact .inr (.inr h)
 | x :: r, s, j + 1, o, h, H => by
  simp only [vZ, yb] at h
  have := CG (j := j) h.2 (by simpa using H)
  rw [show s + (j + 1) = s + 1 + j by omega]; exact this
theorem D8 {ops : Array Oper} {bs : List Nat} : ∀ {l : List Tr}, H5 ops bs l = true → ∀ a ∈ l, a.push = true → vZ bs a.i ops.toList 0 = true
 | [], _, a, H, _ => by simp at H
 | x :: r, h, a, H, J => by
  simp only [H5, yb, yy1, yq] at h
  rcases yn1.1 H with rfl | H
  ·rcases h.1 with I | I
   ·rw [J] at I; cases I
   ·exact I
  ·exact D8 h.2 a H J
structure GE (bs : List Nat) (L : Nat) (a b : Tr) : Prop where
 push : c7 bs a.i b.i = false → a.push = true → b.push = true → False
 far : c7 bs a.i b.i = false → (∀ x ∈ a.wr, x ∉ b.rd) ∧ (∀ x ∈ a.rd, x ∉ b.wr) ∧ (∀ x ∈ a.wr, x ∉ b.wr) ∧ (a.push = true → (∀ x ∈ b.rd, x < L) ∧ ∀ x ∈ b.wr, x < L) ∧ (b.push = true → (∀ x ∈ a.rd, x < L) ∧ ∀ x ∈ a.wr, x < L)
theorem o7 {m : Nat} : ∀ {l : List Nat}, fN m l = true → ∀ b ∈ l, b < m
 | [], _, b, h => by simp at h
 | x :: r, h, b, H => by
  simp only [fN, yb] at h
  rcases yn1.1 H with rfl | H
  ·have := h.1; simp [Nat.blt] at this; omega
  ·exact o7 h.2 b H
theorem JG {bs : List Nat} {L : Nat} {a : Tr} : ∀ {l : List Tr}, OQ bs L a l = true → ∀ b ∈ l, GE bs L a b
 | [], _, b, h => by simp at h
 | x :: r, h, b, M => by
  simp only [OQ, yb] at h
  rcases yn1.1 M with rfl | M
  ·refine ⟨fun J K N => by have := h.1; rw [J, K, N] at this; simp at this, fun J => ?_⟩
   have := h.1
   rw [J] at this
   simp only [Bool.false_or, yb, yy1, yq] at this
   obtain ⟨⟨⟨⟨⟨_, K⟩, N⟩, U⟩, I⟩, H⟩ := this
   refine ⟨wS K, wS N, wS U, fun O => ?_, fun O => ?_⟩
   ·rcases I with I | I
    ·rw [O] at I; cases I
    ·exact ⟨o7 I.1, o7 I.2⟩
   ·rcases H with H | H
    ·rw [O] at H; cases H
    ·exact ⟨o7 H.1, o7 H.2⟩
  ·exact JG h.2 b M
theorem vT {bs : List Nat} {L : Nat} : ∀ {l : List Tr}, Lq bs L l = true → l.Pairwise (GE bs L)
 | [], _ => .nil
 | a :: r, h => by
  simp only [Lq, yb] at h
  exact .cons (JG h.1) (vT h.2)
theorem lW {bs : List Nat} {i j : Nat} : c7 bs i j = c7 bs j i := by unfold c7; rw [Bool.or_comm]
theorem GE.symm {bs : List Nat} {L : Nat} {a b : Tr} (h : GE bs L a b) : GE bs L b a :=
 ⟨fun J K M => h.push (by rw [lW]; exact J) M K, fun J => by
  obtain ⟨K, M, U, O, N⟩ := h.far (by rw [lW]; exact J)
  exact ⟨fun x I H => M x H I, fun x I H => K x H I, fun x I H => U x H I, N, O⟩⟩
section
variable {P : Program} {C : bQ} {an : lA} {rid : Nat} {ops : Array Oper}
theorem jH.facts {o : Oper} {i rs : Nat} {st : St} {e : jC} (h : jH P C an rid ops o i rs st e) :
  (∀ q ∈ e.wr, ∃ t, e.tr = some t ∧ q.1 ∈ t.wr) ∧ (e.push ≠ [] → ∃ t, e.tr = some t ∧ t.push = true) ∧ (∀ t, e.tr = some t → t.i = i) := by
 cases h with
 | run out J ho N =>
  refine ⟨fun q H => ⟨_, rfl, ?_⟩, fun I => ⟨_, rfl, ?_⟩, fun t ht => ?_⟩
  ·simp only [dD.tr]
   cases dY o.op with
   | true => simp only [yl]; exact yh _ (yu2.2 ⟨q, H, rfl⟩)
   | false => simp only [yk]; exact yu2.2 ⟨q, H, rfl⟩
  ·show (match out.push with | [] => false | _ => true) = true
   split
   ·rename_i M; exact absurd M I
   ·rfl
  ·cases ht; rfl
 | skip j K d N hd h => exact ⟨fun q H => by simp at H, fun I => absurd rfl I, fun t ht => by cases ht⟩
structure C5 (S F : Nat → Prop) (L : Nat) (o : Oper) (e : jC) : Prop where
 dst : ∀ d, o.dst = some d → ¬ S d
 wr : ∀ q ∈ e.wr, ¬ F q.1
 push : e.push ≠ [] → ∀ b, F b → b < L
theorem kL (e : jC) (d : Option Tmp) (st : St) : (e.app d st).mem.length = st.mem.length + e.push.length := by simp [jC.app, bU]
theorem vO.symm {S F : Nat → Prop} {st H : St} (h : vO S F st H) : vO S F H st := ⟨fun d J => (h.1 d J).symm, fun b I => (h.2 b I).symm⟩
theorem GM {S F : Nat → Prop} {L : Nat} {o : Oper} {e : jC} {st H : St} (h : vO S F st H) (hn : C5 S F L o e) (U : L ≤ H.mem.length) : vO S F st (e.app o.dst H) := by
 refine ⟨fun d M => ?_, fun b K => ?_⟩
 ·rw [← h.1 d M]
  simp only [jC.app]
  cases J : o.dst with
  | none => rfl
  | some t =>
   simp only [lZ, d5]
   exact yp (fun e => hn.dst t J (by rw [e]; exact M))
 ·rw [← h.2 b K]
  simp only [jC.app]
  have I : (aJ H.mem e.wr)[b]? = H.mem[b]? := Kx fun q O e => hn.wr q O (by rw [e]; exact K)
  by_cases N : e.push = []
  ·rw [N, yg1]; exact I
  ·rw [yn (by rw [bU]; exact yh1 (hn.push N b K) U)]; exact I
theorem KL {S F : Nat → Prop} {d : Option Tmp} {e : jC} {st H : St} (h : vO S F st H) (I : e.push ≠ [] → H.mem.length = st.mem.length) : vO S F (e.app d st) (e.app d H) := by
 refine ⟨fun t ht => ?_, fun b O => ?_⟩
 ·simp only [jC.app]
  cases d with
  | none => exact h.1 t ht
  | some d =>
   simp only [lZ, d5]
   have := h.1 t ht
   rw [List.getElem?_set, List.getElem?_set]
   by_cases M : d = t
   ·subst M
    simp only [if_true]
    by_cases I : d < st.tmps.length
    ·have J : d < H.tmps.length := by
      rcases yc2 d H.tmps.length with J | J
      ·exact J
      ·rw [ya1 J, yf I] at this; cases this
     rw [if_pos I, if_pos J]
    ·have J : ¬ d < H.tmps.length := by
      intro J
      rw [yf J, ya1 (Nat.le_of_not_lt I)] at this; cases this
     rw [if_neg I, if_neg J]
   ·rw [if_neg M, if_neg M]; exact this
 ·simp only [jC.app]
  have hs : (aJ H.mem e.wr)[b]? = (aJ st.mem e.wr)[b]? := M3 (h.2 b O)
  by_cases N : e.push = []
  ·rw [N, yg1, yg1]; exact hs
  ·have I := I N
   by_cases K : b < st.mem.length
   ·rw [yn (by rw [bU, I]; exact K), yn (by rw [bU]; exact K)]; exact hs
   ·rw [yu (by rw [bU, I]; omega), yu (by rw [bU]; omega), bU, bU, I]
def Bx (D : Nat → Bool) (i : Nat) (l : List (Oper × jC)) : Prop := ∀ (k k' : Nat) (q q' : Oper × jC), k < k' → l[k]? = some q → l[k']? = some q' → q.2.push ≠ [] → q'.2.push ≠ [] → D (i + k') = true → D (i + k) = true
theorem Bx.tail {D : Nat → Bool} {i : Nat} {q : Oper × jC} {l : List (Oper × jC)} (h : Bx D i (q :: l)) : Bx D (i + 1) l := fun k I p O hk K H J M N => by
 have := h (k + 1) (I + 1) p O (by omega) (by simpa using K) (by simpa using H) J M (by rw [show i + (I + 1) = i + 1 + I by omega]; exact N)
 rwa [show i + (k + 1) = i + 1 + k by omega] at this
theorem mO {S F : Nat → Prop} {L : Nat} {D D' : Nat → Bool} : ∀ {l : List (Oper × jC)} {i : Nat} {st I : St}, L ≤ st.mem.length → L ≤ I.mem.length →
  (st.mem.length = I.mem.length ∨ ∀ (k : Nat) (q : Oper × jC), l[k]? = some q → q.2.push ≠ [] → D (i + k) = false ∨ D' (i + k) = false) → Bx D i l → Bx D' i l →
  (∀ k o e, l[k]? = some (o, e) → D (i + k) ≠ D' (i + k) → C5 S F L o e) → vO S F st I → vO S F (cO D i l st) (cO D' i l I)
 | [], i, st, I, _, _, _, _, _, _, h => h
 | (o, e) :: r, i, st, I, hl, N, V, hc, O, hn, h => by
  simp only [cO]
  have U : ∀ k o' e', r[k]? = some (o', e') → D (i + 1 + k) ≠ D' (i + 1 + k) → C5 S F L o' e' := fun k o' e' K hne => hn (k + 1) o' e' (by simpa using K) (by rw [show i + (k + 1) = i + 1 + k by omega]; exact hne)
  have up : ∀ {s : St}, L ≤ s.mem.length → L ≤ (e.app o.dst s).mem.length := fun h => by rw [kL]; omega
  have W : (∀ (k : Nat) (q : Oper × jC), ((o, e) :: r)[k]? = some q → q.2.push ≠ [] → D (i + k) = false ∨ D' (i + k) = false) → ∀ (k : Nat) (q : Oper × jC), r[k]? = some q → q.2.push ≠ [] → D (i + 1 + k) = false ∨ D' (i + 1 + k) = false := by
   intro hh k q K J
   have := hh (k + 1) q (by simpa using K) J
   rwa [show i + (k + 1) = i + 1 + k by omega] at this
  have later : D i = false → e.push ≠ [] → ∀ (k : Nat) (q : Oper × jC), r[k]? = some q → q.2.push ≠ [] → D (i + 1 + k) = false := by
   intro hd J k q K H
   cases hdk : D (i + 1 + k) with
   | false => rfl
   | true =>
    have := hc 0 (k + 1) (o, e) q (by omega) rfl (by simpa using K) J H (by rw [show i + (k + 1) = i + 1 + k by omega]; exact hdk)
    rw [ym1, hd] at this; cases this
  have Y : D' i = false → e.push ≠ [] → ∀ (k : Nat) (q : Oper × jC), r[k]? = some q → q.2.push ≠ [] → D' (i + 1 + k) = false := by
   intro hd J k q K H
   cases hdk : D' (i + 1 + k) with
   | false => rfl
   | true =>
    have := O 0 (k + 1) (o, e) q (by omega) rfl (by simpa using K) J H (by rw [show i + (k + 1) = i + 1 + k by omega]; exact hdk)
    rw [ym1, hd] at this; cases this
  cases hD : D i with
  | true =>
   cases M : D' i with
   | true =>
    have hlen : e.push ≠ [] → I.mem.length = st.mem.length := by
     intro J
     rcases V with V | V
     ·exact V.symm
     ·rcases V 0 (o, e) rfl J with h | h
      ·rw [ym1, hD] at h; cases h
      ·rw [ym1, M] at h; cases h
    refine mO (up hl) (up N) (V.imp (fun h => ?_) W) hc.tail O.tail U (KL h hlen)
    simp only [yl, kL, h]
   | false =>
    have Z := hn 0 o e rfl (by rw [ym1, hD, M]; simp)
    refine mO (up hl) N ?_ hc.tail O.tail U (GM h.symm Z hl).symm
    by_cases J : e.push = []
    ·refine V.imp (fun h => ?_) W
     simp only [yl, yk, kL, J, List.length_nil, ym1, h]
    ·exact .inr fun k q K H => .inr (Y M J k q K H)
  | false =>
   cases M : D' i with
   | true =>
    have Z := hn 0 o e rfl (by rw [ym1, hD, M]; simp)
    refine mO hl (up N) ?_ hc.tail O.tail U (GM h Z N)
    by_cases J : e.push = []
    ·refine V.imp (fun h => ?_) W
     simp only [yl, yk, kL, J, List.length_nil, ym1, h]
    ·exact .inr fun k q K H => .inl (later hD J k q K H)
   | false => exact mO hl N (V.imp id W) hc.tail O.tail U h
theorem LO {D : Nat → Bool} : ∀ {l : List (Oper × jC)} {i : Nat} {st : St}, st.mem.length ≤ (cO D i l st).mem.length
 | [], i, st => yy _
 | (o, e) :: r, i, st => by
  simp only [cO]
  refine ya2 ?_ (LO (l := r))
  cases D i with
  | true => simp only [yl, kL]; omega
  | false => exact yy _
theorem IE {D D' : Nat → Bool} : ∀ {l : List (Oper × jC)} {i : Nat} {st H : St}, H.mem.length = st.mem.length → (∀ k o e, l[k]? = some (o, e) → e.push ≠ [] → D (i + k) = D' (i + k)) → (cO D' i l H).mem.length = (cO D i l st).mem.length
 | [], i, st, H, h, _ => h
 | (o, e) :: r, i, st, H, h, hn => by
  simp only [cO]
  refine IE ?_ (fun k M K J I => by have := hn (k + 1) M K (by simpa using J) I; rwa [show i + (k + 1) = i + 1 + k by omega] at this)
  by_cases I : e.push = []
  ·cases D i <;> cases D' i <;> simp only [yl, yk, kL, I, List.length_nil, ym1] <;> exact h
  ·have := hn 0 o e rfl I
   rw [ym1] at this
   rw [this]
   cases D' i <;> simp only [yl, yk, kL, h]
theorem q4 {D : Nat → Bool} : ∀ {a b : List (Oper × jC)} {i : Nat} {st : St}, cO D i (a ++ b) st = cO D (i + a.length) b (cO D i a st)
 | [], b, i, st => rfl
 | (o, e) :: a, b, i, st => by
  simp only [yp2, cO, yg2]
  rw [q4, show i + 1 + a.length = i + (a.length + 1) by omega]
theorem Dh {L : Nat} {D : Nat → Bool} {e : jC} {d : Option Tmp} : ∀ {l : List (Oper × jC)} {i : Nat} {st : St}, L ≤ st.mem.length →
  (∀ k N K, l[k]? = some (N, K) → D (i + k) = true → Oz L d N.dst e K) → cO D i l (e.app d st) = e.app d (cO D i l st)
 | [], i, st, _, _ => rfl
 | (N, K) :: r, i, st, O, hm => by
  simp only [cO]
  have I : ∀ k M J, r[k]? = some (M, J) → D (i + 1 + k) = true → Oz L d M.dst e J := fun k M J U V => hm (k + 1) M J (by simpa using U) (by rw [show i + (k + 1) = i + 1 + k by omega]; exact V)
  cases hD : D i with
  | true =>
   simp only [yl]
   have H := hm 0 N K rfl (by rw [ym1]; exact hD)
   rw [jC.comm H O]
   exact Dh (L := L) (by rw [kL]; omega) I
  | false =>
   simp only [yk]
   exact Dh (L := L) O I
end
end Go.Ab
end
section
namespace Go.Ab
variable [b4]
section
variable {P : Program} {C : bQ} {an : lA} {rid : Nat} {ops : Array Oper} {R : Type}
theorem Md {D : Nat → Bool} {n : Nat} (h : ∃ i, i < n ∧ D i = false) : ∃ i, i < n ∧ D i = false ∧ ∀ j, j < i → D j = true := by
 obtain ⟨i, ⟨J, I⟩, H⟩ := Ey (p := fun i => i < n ∧ D i = false) h
 refine ⟨i, J, I, fun j hj => ?_⟩
 cases hD : D j with
 | true => rfl
 | false => have := H j ⟨by omega, hD⟩; omega
def left (D : Nat → Bool) : Nat → Nat
 | 0 => 0
 | n + 1 => left D n + (bif D n then 0 else 1)
theorem GW {D : Nat → Bool} : ∀ {n : Nat}, left D n = 0 → ∀ i, i < n → D i = true
 | 0, _, i, h => by omega
 | n + 1, h, i, hi => by
  simp only [left] at h
  rcases yc2 i n with H | H
  ·exact GW (by omega) i H
  ·obtain rfl : i = n := by omega
   cases hD : D i with
   | true => rfl
   | false => rw [hD] at h; simp at h
theorem I6 {D D' : Nat → Bool} {i : Nat} (hD : D i = false) (H : D' i = true) (hs : ∀ j, j ≠ i → D' j = D j) : ∀ {n : Nat}, (i < n → left D n = left D' n + 1) ∧ (n ≤ i → left D n = left D' n)
 | 0 => ⟨fun h => by omega, fun _ => rfl⟩
 | n + 1 => by
  obtain ⟨K, I⟩ := I6 hD H hs (n := n)
  refine ⟨fun h => ?_, fun h => ?_⟩
  ·simp only [left]
   rcases yc2 i n with J | J
   ·rw [K J, hs n (by omega)]; omega
   ·obtain rfl : i = n := by omega
    rw [I (yy _), hD, H]; rfl
  ·simp only [left]
   rw [I (by omega), hs n (by omega)]
theorem I3 {D : Nat → Bool} : ∀ {n : Nat}, 0 < left D n → ∃ i, i < n ∧ D i = false
 | 0, h => by simp [left] at h
 | n + 1, h => by
  simp only [left] at h
  cases hD : D n with
  | false => exact ⟨n, yx2 _, hD⟩
  | true =>
   rw [hD] at h; simp only [yl, ym1] at h
   obtain ⟨i, hi, H⟩ := I3 h
   exact ⟨i, by omega, H⟩
theorem MB (n : Nat) : left (fun _ => false) n = n := by
 induction n with
 | zero => rfl
 | succ n H => simp [left, H]
def jF (listed : Array Bool) : Nat → Bool := fun i => listed.getD i false
theorem Pn {x y : Option (Nat × Nat × Nat × Nat)} (h : P5 x y = true) : x = y := by
 unfold P5 at h
 split at h
 ·rfl
 ·simp only [yb] at h
  obtain ⟨⟨⟨H, I⟩, K⟩, J⟩ := h
  rw [bJ.1 H, bJ.1 I, bJ.1 K, bJ.1 J]
 ·cases h
theorem L6 : ∀ {x y : List (Option (Nat × Nat × Nat × Nat))}, Oo x y = true → x = y
 | [], [], _ => rfl
 | x :: xs, y :: ys, h => by
  simp only [Oo, yb] at h
  rw [Pn h.1, L6 h.2]
 | [], _ :: _, h => by cases h
 | _ :: _, [], h => by cases h
theorem M0 {x y : Option (Nat × Nat × List (Option (Nat × Nat × Nat × Nat)))} (h : H8 x y = true) : x = y := by
 unfold H8 at h
 split at h
 ·simp only [yb] at h
  obtain ⟨⟨H, I⟩, J⟩ := h
  rw [bJ.1 H, bJ.1 I, L6 J]
 ·cases h
theorem oQ {b : Nat} {V : Option (Nat × Nat × List (Option (Nat × Nat × Nat × Nat)))} : ∀ {wr : List (Nat × a9)} {m : aH}, (∀ q ∈ wr, q.1 = b → gS q.2 = V) → aT m b = V → aT (aJ m wr) b = V
 | [], m, _, h => h
 | (c, x) :: wr, m, H, h => by
  unfold aJ
  refine oQ (fun q J => H q (yh _ J)) ?_
  by_cases I : c = b
  ·subst I
   by_cases K : c < m.length
   ·unfold aT
    rw [yw K]
    exact H (c, x) (ym ..) rfl
   ·rw [List.set_eq_of_length_le (by omega)]; exact h
  ·unfold aT
   rw [yp I]
   exact h
theorem w7 {b : Nat} {V : Option (Nat × Nat × List (Option (Nat × Nat × Nat × Nat)))} {e : jC} {d : Option Tmp} {st : St} (I : b < st.mem.length) (J : ∀ q ∈ e.wr, q.1 = b → gS q.2 = V) (h : aT st.mem b = V) : aT (e.app d st).mem b = V := by
 have H := oQ J h
 unfold jC.app
 simp only
 unfold aT at H ⊢
 rw [yn (by rw [bU]; exact I)]
 exact H
theorem mX {b : Nat} {V : Option (Nat × Nat × List (Option (Nat × Nat × Nat × Nat)))} {D : Nat → Bool} : ∀ {l : List (Oper × jC)} {i : Nat} {st : St}, b < st.mem.length → (∀ p ∈ l, ∀ q ∈ p.2.wr, q.1 = b → gS q.2 = V) → aT st.mem b = V → aT (cO D i l st).mem b = V
 | [], i, st, _, _, h => h
 | (o, e) :: l, i, st, J, I, h => by
  simp only [cO]
  cases hD : D i with
  | true =>
   exact mX (by rw [yl, kL]; omega) (fun p H => I p (yh _ H)) (w7 J (I (o, e) (ym ..)) h)
  | false => exact mX J (fun p H => I p (yh _ H)) h
theorem FY {b : Nat} {all : List Tr} (J : ∀ u ∈ all, b ∉ u.wr ∨ u.wk b = true) : ∀ {l : List (Oper × jC)} {i rs : Nat} {st : St}, Cc P C an rid ops i rs st l → (∀ p ∈ l, ∀ t, p.2.tr = some t → t ∈ all) → b < st.mem.length →
  ∀ p ∈ l, ∀ q ∈ p.2.wr, q.1 = b → gS q.2 = aT st.mem b
 | [], i, rs, st, _, _, _, p, K => by cases K
 | (o, e) :: l, i, rs, st, Z, hm, Y, p, K => by
  cases Z with
  | cons _ _ _ _ _ _ h hr =>
  have H : ∀ q ∈ e.wr, q.1 = b → gS q.2 = aT st.mem b := by
   intro q N I
   cases h with
   | run out V ho hg =>
    rcases J _ (hm (o, _) (ym ..) _ rfl) with M | M
    ·exfalso
     apply M
     have : b ∈ out.wr.map (·.1) := yu2.2 ⟨q, N, I⟩
     simp only [dD.tr]
     cases dY o.op with
     | true => exact yh _ this
     | false => exact this
    ·have M : o9 st.mem out.wr b = true := M
     unfold o9 at M
     have := yr1.1 M q N
     simp only [yy1, yq] at this
     rcases this with U | U
     ·exact absurd I (fun e => by rw [e, yp3] at U; cases U)
     ·exact M0 U
   | skip j W d hg hd h => cases N
  rcases yn1.1 K with rfl | K
  ·exact H
  ·intro q N I
   have O : b < (e.app o.dst st).mem.length := by rw [kL]; omega
   rw [FY J hr (fun p K => hm p (yh _ K)) O p K q N I]
   exact w7 Y H rfl
structure Gd (P : Program) (C : bQ) (an : lA) (rid : Nat) (ops : Array Oper) (L : Nat) (st0 : St) (l : List (Oper × jC)) (all : List Tr) : Prop where
 map : l.map (·.1) = ops.toList
 len : st0.mem.length = L
 one : ∀ (i j : Nat) (o o' : Oper) (e e' : jC), i ≠ j → l[i]? = some (o, e) → l[j]? = some (o', e') → e.push ≠ [] → e'.push ≠ [] → c7 (vK ops.toList []) i j = true
 step : ∀ (j : Nat) (o : Oper) (e : jC), l[j]? = some (o, e) → ∃ rs, jH P C an rid ops o j rs (cO (fun k => Nat.blt k j) 0 l st0) e
 mate : ∀ (i j : Nat) (o o' : Oper) (e e' : jC), i ≠ j → l[i]? = some (o, e) → l[j]? = some (o', e') → c7 (vK ops.toList []) i j = false →
  Oz L o.dst o'.dst e e' ∧ C5 (Og ops o) (Py L all e) L o' e' ∧ (e'.push ≠ [] → kS o = false)
 back : jA ops.toList 0 = true
 const : ∀ b, Ki L all b = true → ∀ D, aT (cO D 0 l st0).mem b = aT st0.mem b
theorem Mm {st0 : St} {l : List (Oper × jC)} {rs L : Nat} (hmap : l.map (·.1) = ops.toList) (hc : Cc P C an rid ops 0 rs st0 l) (hlen : st0.mem.length = L) (hd : H6 ops L ((l.filterMap (·.2.tr)).reverse) = true) :
  Gd P C an rid ops L st0 l ((l.filterMap (·.2.tr)).reverse) := by
 generalize hall : (l.filterMap (·.2.tr)).reverse = all at hd ⊢
 unfold H6 at hd
 simp only [yb] at hd
 obtain ⟨⟨⟨hback, htrs⟩, hpush⟩, Z⟩ := hd
 have J : ∀ (j : Nat) (o : Oper) (e : jC), l[j]? = some (o, e) → ∃ rs, jH P C an rid ops o j rs (cO (fun k => Nat.blt k j) 0 l st0) e := by
  intro j o e V
  have := hc.get V
  simpa using this
 have hop : ∀ (j : Nat) (o : Oper) (e : jC), l[j]? = some (o, e) → ops[j]? = some o := by
  intro j o e V
  have : (l.map (·.1))[j]? = some o := by rw [yb1, V]; rfl
  rw [hmap, yp1] at this; exact this
 have hpw := vT htrs
 rw [List.pairwise_map] at hpw
 conv at hpw => arg 2; rw [← hall]
 rw [List.pairwise_reverse, List.pairwise_filterMap] at hpw
 have hrel : ∀ (i j : Nat) (o N : Oper) (e M : jC), i ≠ j → l[i]? = some (o, e) → l[j]? = some (N, M) → ∀ t I, e.tr = some t → M.tr = some I → GE (vK ops.toList []) L (F0 L all t) (F0 L all I) := by
  intro i j o N e M K hi V t I ht H
  obtain ⟨hil, hi2⟩ := yd.1 hi
  obtain ⟨hjl, hj2⟩ := yd.1 V
  rw [List.pairwise_iff_getElem] at hpw
  rcases Nat.lt_or_gt_of_ne K with h | h
  ·exact (hpw i j hil hjl h t (by rw [hi2]; exact ht) I (by rw [hj2]; exact H)).symm
  ·exact hpw j i hjl hil h I (by rw [hj2]; exact H) t (by rw [hi2]; exact ht)
 have hone2 : ∀ (i j : Nat) (o N : Oper) (e M : jC), i ≠ j → l[i]? = some (o, e) → l[j]? = some (N, M) → c7 (vK ops.toList []) i j = false → e.push = [] ∨ M.push = [] := by
  intro i j o N e M K hi V Y
  by_cases h1 : e.push = []
  ·exact .inl h1
  ·by_cases h2 : M.push = []
   ·exact .inr h2
   ·obtain ⟨rs1, hs1⟩ := J i o e hi
    obtain ⟨rs2, hs2⟩ := J j N M V
    obtain ⟨t, ht, hp⟩ := hs1.facts.2.1 h1
    obtain ⟨I, H, hp'⟩ := hs2.facts.2.1 h2
    exact ((hrel i j o N e M K hi V t I ht H).push (by rw [gJ.1, gJ.1, hs1.facts.2.2 t ht, hs2.facts.2.2 I H]; exact Y) (by rw [gJ.2.2]; exact hp) (by rw [gJ.2.2]; exact hp')).elim
 refine ⟨hmap, hlen, ?_, J, ?_, hback, ?_⟩
 ·intro i j o N e M K hi V h1 h2
  cases ho : c7 (vK ops.toList []) i j with
  | true => rfl
  | false =>
   rcases hone2 i j o N e M K hi V ho with h | h
   ·exact absurd h h1
   ·exact absurd h h2
 ·intro i j o N e M K hi V Y
  obtain ⟨rs1, hs1⟩ := J i o e hi
  obtain ⟨rs2, hs2⟩ := J j N M V
  obtain ⟨f1, f2, f3⟩ := hs1.facts
  obtain ⟨g1, g2, g3⟩ := hs2.facts
  have hoi := hop i o e hi
  have hoj := hop j N M V
  have hin : i < ops.size := (ym2.1 hoi).1
  have hjn : j < ops.size := (ym2.1 hoj).1
  have O : ∀ t I, e.tr = some t → M.tr = some I → _ := fun t I ht H => (hrel i j o N e M K hi V t I ht H).far (by rw [gJ.1, gJ.1, f3 t ht, g3 I H]; exact Y)
  -- slots
  have hsl : (∀ d, o.dst = some d → d ∉ N.looksAt ops) ∧ (∀ d, o.dst = some d → N.dst ≠ some d) ∧ (∀ d, N.dst = some d → d ∉ o.looksAt ops) := by
   rcases Nat.lt_or_gt_of_ne K with h | h
   ·rcases qJ Z (Nat.zero_le _) h (by omega) with h' | h'
    ·rw [Y] at h'; cases h'
    ·unfold zX at h'
     rw [hoi, hoj] at h'
     exact Oper.apart_spec h'
   ·rcases qJ Z (Nat.zero_le _) h (by omega) with h' | h'
    ·rw [lW, Y] at h'; cases h'
    ·unfold zX at h'
     rw [hoi, hoj] at h'
     obtain ⟨a1, a2, a3⟩ := Oper.apart_spec h'
     exact ⟨a3, fun d hd hd' => a2 d hd' hd, a1⟩
  refine ⟨⟨hsl.2.1, fun q hq q' hq' => ?_, hone2 i j o N e M K hi V Y, fun hp q hq => ?_, fun hp q hq => ?_⟩, ⟨fun d hd hS => hsl.2.2 d hd hS, fun q hq hF => ?_, fun hp b hF => ?_⟩, fun hp => ?_⟩
  ·obtain ⟨t, ht, hm⟩ := f1 q hq
   obtain ⟨I, H, hm'⟩ := g1 q' hq'
   intro he
   exact (O t I ht H).2.2.1 _ (by rw [gJ.2.1]; exact hm) (by rw [gJ.2.1, he]; exact hm')
  ·obtain ⟨t, ht, W⟩ := f2 hp
   obtain ⟨I, H, hm'⟩ := g1 q hq
   exact ((O t I ht H).2.2.2.1 (by rw [gJ.2.2]; exact W)).2 _ (by rw [gJ.2.1]; exact hm')
  ·obtain ⟨I, H, W⟩ := g2 hp
   obtain ⟨t, ht, hm⟩ := f1 q hq
   exact ((O t I ht H).2.2.2.2 (by rw [gJ.2.2]; exact W)).2 _ (by rw [gJ.2.1]; exact hm)
  ·obtain ⟨I, H, hm'⟩ := g1 q hq
   obtain ⟨t, ht, U⟩ := hF
   obtain ⟨k1, k2, k3, _⟩ := O t I ht H
   rcases U with U | U
   ·exact k2 _ U (by rw [gJ.2.1]; exact hm')
   ·exact k3 _ (by rw [gJ.2.1]; exact U) (by rw [gJ.2.1]; exact hm')
  ·obtain ⟨I, H, W⟩ := g2 hp
   obtain ⟨t, ht, U⟩ := hF
   obtain ⟨k1, k2⟩ := (O t I ht H).2.2.2.2 (by rw [gJ.2.2]; exact W)
   rcases U with U | U
   ·exact k1 _ U
   ·exact k2 _ (by rw [gJ.2.1]; exact U)
  ·obtain ⟨I, H, W⟩ := g2 hp
   have hmem : I ∈ all := by
    rw [← hall, List.mem_reverse, List.mem_filterMap]
    exact ⟨(N, M), yt V, H⟩
   have hnc := D8 hpush I hmem W
   rw [g3 I H] at hnc
   have := CG (j := i) hnc (by rw [yp1]; exact hoi)
   rw [yc1] at this
   rcases this with h | h | h
   ·exact absurd h.symm K
   ·rw [lW, Y] at h; cases h
   ·exact h
 ·intro b U D
  unfold Ki at U
  simp only [yb] at U
  have hbL : b < st0.mem.length := by
   have := U.1; simp [Nat.blt] at this; omega
  have hall2 : ∀ u ∈ all, b ∉ u.wr ∨ u.wk b = true := by
   intro u hu
   have := yr1.1 U.2 u hu
   simp only [yy1, yq] at this
   rcases this with h | h
   ·left; intro hm; rw [o0.2 hm] at h; cases h
   ·exact .inr h
  exact mX hbL (FY hall2 hc (fun p hp t ht => by rw [← hall, List.mem_reverse, List.mem_filterMap]; exact ⟨p, hp, ht⟩) hbL) rfl
theorem HK {H : Array Bool} {i j : Nat} (I : i < H.size) : (H.setIfInBounds i true).getD j false = (if j = i then true else H.getD j false) := by
 by_cases h : j = i
 ·subst h
  rw [if_pos rfl, yj, Array.getElem?_setIfInBounds_self_of_lt I]; rfl
 ·rw [if_neg h, yj, Array.getElem?_setIfInBounds_ne (fun e => h e.symm), ← yj]
theorem MU (hC : jK P C) {L : Nat} {J : St} {l : List (Oper × jC)} {all : List Tr} (hF : Gd P C an rid ops L J l all) {G0 : Gh} {w0 : World} {old : List (Option Bool)} {Q : Exit → Act → World → Prop}
  (hQ : ∀ G w a, SR G w (cO (fun _ => true) 0 l J) a → CR G0 w0 old G w → Q .normal a w) :
  ∀ (fuel : Nat) (H : Array Bool) (G : Gh) (w : World) (a : Act), H.size = ops.size → Bo ops (jF H) → left (jF H) ops.size = fuel → SR G w (cO (jF H) 0 l J) a → CR G0 w0 old G w →
   wpAny P .any ops Q fuel H a w := by
 have hll : l.length = ops.size := by rw [← ye1 (f := (·.1)) (as := l), hF.map]; simp
 intro fuel
 induction fuel with
 | zero =>
  intro H G w a hsz hcl V hS hI
  have hall := GW V
  refine ⟨?_, hQ G w a ?_ hI⟩
  ·apply List.eq_nil_iff_forall_not_mem.2
   intro j hj
   obtain ⟨h1, o, ho, _⟩ := mem_ready.1 hj
   have hjn := (ym2.1 ho).1
   have := hall j hjn
   unfold jF at this
   rw [yj, yl1 (by omega)] at this h1
   simp only [Option.getD_some] at this h1
   rw [this] at h1; cases h1
  ·rw [← nE (D := jF H) (D' := fun _ => true) (fun k _ M => hall k (by omega))]; exact hS
 | succ fuel ih =>
  intro H G w a hsz hcl V hS hI
  have Y : ∀ i, i < ops.size → H.getD i true = jF H i := by
   intro i hi
   unfold jF
   rw [yj, yj, yl1 (by omega)]; rfl
  refine ⟨fun hnil => ?_, fun i hi => ?_⟩
  ·obtain ⟨i, Z, hid, hmin⟩ := Md (I3 (D := jF H) (n := ops.size) (by omega))
   have : i ∈ Region.ready .any ops H := by
    refine mem_ready.2 ⟨by rw [Y i Z]; exact hid, ops[i], yl1 Z, fun e he U => ?_⟩
    refine hmin e.on ?_
    have := nY (j := i) hF.back (by rw [yp1]; exact yl1 Z)
    rw [yc1] at this
    exact vA this e (by simpa using he) U
   rw [hnil] at this; cases this
  ·obtain ⟨h1, o, ho, hpre⟩ := mem_ready.1 hi
   have Z := (ym2.1 ho).1
   rw [Y i Z] at h1
   obtain ⟨e, hle⟩ : ∃ e, l[i]? = some (o, e) := by
    have hi2 : i < l.length := by omega
    have : (l.map (·.1))[i]? = some o := by rw [hF.map, yp1]; exact ho
    rw [yb1, yf hi2] at this
    exact ⟨l[i].2, by rw [yf hi2]; simp at this; rw [← this]⟩
   let D := jF H
   let D1 := jF (H.setIfInBounds i true)
   have hD1 : ∀ j, D1 j = if j = i then true else D j := fun j => HK (by omega)
   have hD1i : D1 i = true := by rw [hD1, if_pos rfl]
   have O : ∀ j, j ≠ i → D1 j = D j := fun j hj => by rw [hD1, if_neg hj]
   have hcl1 : Bo ops D1 := by
    intro j o' hj e' he U hd
    by_cases hji : j = i
    ·subst hji
     rw [ho] at hj; obtain rfl := ya hj
     have := hpre e' he U
     rw [hD1]; split
     ·rfl
     ·exact this
    ·rw [O j hji] at hd
     have := hcl j o' hj e' he U hd
     rw [hD1]; split
     ·rfl
     ·exact this
   -- what differs stands apart
   have hun1 : ∀ k, D k = true → i < k → c7 (vK ops.toList []) i k = false := by
    intro k M hik
    cases I : c7 (vK ops.toList []) i k with
    | false => rfl
    | true =>
     unfold c7 at I
     rw [yy1] at I
     rcases I with I | I
     ·have := (o8 hF.back I).2 D hcl M
      rw [show D i = false from h1] at this; cases this
     ·have := (o8 hF.back I).1; omega
   have hun2 : ∀ k, D k = false → k < i → c7 (vK ops.toList []) i k = false := by
    intro k M hik
    cases I : c7 (vK ops.toList []) i k with
    | false => rfl
    | true =>
     unfold c7 at I
     rw [yy1] at I
     rcases I with I | I
     ·have := (o8 hF.back I).1; omega
     ·have := (o8 hF.back I).2 D1 hcl1 hD1i
      rw [O k (by omega), M] at this; cases this
   have hdiff : ∀ k, (Nat.blt k i) ≠ D k → c7 (vK ops.toList []) i k = false ∧ k ≠ i := by
    intro k K
    rcases Nat.lt_trichotomy k i with h | h | h
    ·have U : Nat.blt k i = true := by simp [Nat.blt]; omega
     rw [U] at K
     have M : D k = false := by cases hh : D k with | false => rfl | true => rw [hh] at K; exact absurd rfl K
     exact ⟨hun2 k M h, by omega⟩
    ·subst h
     have U : Nat.blt k k = false := by cases U : Nat.blt k k with | false => rfl | true => simp [Nat.blt] at U; omega
     rw [U, show D k = false from h1] at K; exact absurd rfl K
    ·have U : Nat.blt k i = false := by cases U : Nat.blt k i with | false => rfl | true => simp [Nat.blt] at U; omega
     rw [U] at K
     have M : D k = true := by cases hh : D k with | true => rfl | false => rw [hh] at K; exact absurd rfl K
     exact ⟨hun1 k M h, by omega⟩
   obtain ⟨rs, hstep⟩ := hF.step i o e hle
   have hagree : vO (Og ops o) (Py L all e) (cO (fun k => Nat.blt k i) 0 l J) (cO D 0 l J) := by
    have hcl2 : ∀ D2 : Nat → Bool, (∀ k k', k < k' → c7 (vK ops.toList []) k k' = true → D2 k' = true → D2 k = true) → Bx D2 0 l := by
     intro D2 h2 k k' q q' hkk M hk' hp hp' hd
     rw [yc1] at hd ⊢
     exact h2 k k' hkk (hF.one k k' q.1 q'.1 q.2 q'.2 (by omega) M hk' hp hp') hd
    refine mO (L := L) (Nat.le_of_eq hF.len.symm) (Nat.le_of_eq hF.len.symm) (.inl rfl) (hcl2 _ fun k k' hkk _ hd => ?_) (hcl2 _ fun k k' hkk I hd => ?_) (fun k o' e' M K => ?_) ⟨fun _ _ => rfl, fun _ _ => rfl⟩
    ·simp only [Nat.blt, Nat.ble_eq] at hd ⊢; omega
    ·unfold c7 at I
     rw [yy1] at I
     rcases I with I | I
     ·exact (o8 hF.back I).2 D hcl hd
     ·have := (o8 hF.back I).1; omega
    rw [yc1] at K
    obtain ⟨hu, hki⟩ := hdiff k K
    exact (hF.mate i k o o' e e' (fun h => hki h.symm) hle M hu).2.1
   have hlens : kS o = true → (cO D 0 l J).mem.length = (cO (fun k => Nat.blt k i) 0 l J).mem.length := by
    intro hcall
    refine IE rfl (fun k o' e' M hp => ?_)
    rw [yc1]
    by_cases heq : Nat.blt k i = D k
    ·exact heq
    ·obtain ⟨hu, hki⟩ := hdiff k heq
     have := (hF.mate i k o o' e e' (fun h => hki h.symm) hle M hu).2.2 hp
     rw [this] at hcall; cases hcall
   obtain ⟨e1, hstep1, hv1, hw1, hp1⟩ := hstep.agree hagree hlens (fun t b ht hc _ _ => (hF.const b hc D).trans (hF.const b hc _).symm)
   have W := hstep1.one
   have happ : e1.app o.dst (cO D 0 l J) = e.app o.dst (cO D 0 l J) := by unfold jC.app; rw [hv1, hw1, hp1]
   rw [happ] at W
   -- and afterwards
   have hafter : e.app o.dst (cO D 0 l J) = cO D1 0 l J := by
    have hil : i < l.length := by omega
    have hel : l[i] = (o, e) := by
     rw [yf hil] at hle; exact ya hle
    have N : l = l.take i ++ (o, e) :: l.drop (i + 1) := by
     rw [← hel, ← List.drop_eq_getElem_cons hil, List.take_append_drop]
    have htl : (l.take i).length = i := by simp; omega
    generalize U : l.drop (i + 1) = b at N
    generalize ha : l.take i = pre at N htl
    rw [N, q4, q4, yc1, htl]
    have hpre' : cO D1 0 pre J = cO D 0 pre J := nE (fun k _ M => by rw [yc1, htl] at M; exact O k (by omega))
    rw [hpre']
    simp only [cO]
    rw [show D i = false from h1, hD1i]
    simp only [yl, yk]
    rw [nE (D := D1) (D' := D) (l := b) (fun k M _ => O k (by omega))]
    refine (Dh (L := L) (ya2 (Nat.le_of_eq hF.len.symm) LO) (fun k o' e' M hd => ?_)).symm
    ·have hk' : l[i + 1 + k]? = some (o', e') := by
      rw [← U, yz] at M; exact M
     exact (hF.mate i (i + 1 + k) o o' e e' (by omega) hle hk' (hun1 _ hd (by omega))).1
   refine W.sound hC ho hS _ _ (fun G' w' a' hg he hS' => ?_)
   rw [hafter] at hS'
   refine ih (H.setIfInBounds i true) G' w' a' (by simpa using hsz) hcl1 ?_ hS' (hI.step hg he)
   have := (I6 (D := D) (D' := D1) h1 hD1i O (n := ops.size)).1 Z
   have h2 : left D ops.size = fuel + 1 := V
   show left D1 ops.size = fuel
   omega
theorem AI (hm : P.follows .mixedOrders = true) (hC : jK P C) (an : lA) : C1 P C an := by
 intro R rid ops st k r G0 w0 old G w a Q h hS hI V
 unfold nC at h
 obtain ⟨l, K, W, H⟩ := FC h
 rw [yg1] at H
 rw [aA] at H
 obtain ⟨I, H⟩ := H
 simp only [Bool.not_true, Bool.false_or] at I
 have hF := Mm (L := st.mem.length + nZ ops.toList) K W (by simp) I
 have J : Ev G w w.drew := Ev.drew G w
 have N : SR G w.drew { st with mem := st.mem ++ List.replicate (nZ ops.toList) none } a := by
  have M := hS.widen (nZ ops.toList)
  exact ⟨M.memr.ev J (.inl rfl) (fun B _ => rfl), M.len, fun j x Z => (M.tmps j x Z).imp id (fun h => h.mono (c8.refl G) J), M.defers⟩
 refine wp_region_any hm ?_
 refine MU hC hF (G0 := G0) (w0 := w0) (old := old) (fun Y w' a' O U => V _ Y w' a' H O.trim U) ops.size (Array.replicate ops.size false) G w.drew a (by simp) ?_ ?_ ?_ (hI.step (c8.refl G) J)
 ·intro j o ho e he hb I
  unfold jF at I
  rw [yj, yw2] at I
  split at I <;> simp at I
 ·have : left (jF (Array.replicate ops.size false)) ops.size = left (fun _ => false) ops.size := by
   congr 1
   funext i
   unfold jF
   rw [yj, yw2]
   split <;> rfl
  rw [this, MB]
 ·rw [zE]
  ·exact N
  ·intro k _
   unfold jF
   rw [yj, yw2]
   split <;> rfl
end
end Go.Ab
end
