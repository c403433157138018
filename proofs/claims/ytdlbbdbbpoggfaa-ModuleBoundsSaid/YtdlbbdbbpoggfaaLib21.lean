import Derived.Test.YtdlbbdbbpoggfaaLib20
set_option linter.unusedVariables false
set_option linter.unusedSectionVars false
set_option linter.unusedSimpArgs false
namespace Go.Ab
variable [b4]
section
variable {P : Program} {R R1 : Type} {r : R} {r1 : R1} {mem : aD} {tab : TypeId → Option TI} {C : bQ} {tbl : FuncId → List aC}
theorem Co : ∀ (wr : List (Nat × dD)) (mem : aD), aB (wV mem wr) = aJ (aB mem) (wr.map fun q => (q.1, q.2.down))
 | [], mem => rfl
 | (b, x) :: wr, mem => by
  simp only [wV, yx1, aJ, d8]
  rw [Co wr]
  congr 1
  simp [aB, List.map_set]
theorem Ln (o : aZ) (mem : aD) : aB (o.apply mem) = o.down.apply (aB mem) := by
 unfold aZ.apply dE.apply
 have : aB (wV mem o.wr ++ o.push) = aB (wV mem o.wr) ++ aB o.push := by simp [aB]
 rw [this, Co]; rfl
theorem D9 (v : KV) : nS v.down = H6 v := by
 cases v <;> rfl
theorem Ay (x : dD) : gN x.down = AM x := by
 obtain ⟨g, f, row⟩ := x
 cases row with
 | os => rfl
 | ts β ag T xs =>
  unfold gN AM dD.down KRow.down
  simp only
  cases dN ag T xs <;> rfl
 | cells e cs =>
  show some (g, e, (KV.downs cs).map nS) = some (g, e, cs.map H6)
  rw [cY, List.map_map]
  congr 3
  exact List.map_congr_left fun v _ => D9 v
theorem vV (mem : aD) (b : Nat) : aT (aB mem) b = mU mem b := by
 unfold aT mU
 rw [aX, eM]
 cases mem[b]? with
 | none => rfl
 | some x =>
  cases x with
  | none => rfl
  | some x => exact Ay x
theorem D7 (mem : aD) (wr : List (Nat × dD)) : oM (aB mem) (wr.map fun q => (q.1, q.2.down)) = zM mem wr := by
 funext b
 unfold oM zM
 rw [List.all_map]
 congr 1
 funext q
 simp only [Function.comp, Ay, vV]
theorem Mm (op : Op) (mem : aD) (v : KV) (rd : List Nat) : Mp op (aB mem) v.down rd = Ni op mem v rd := by
 unfold Mp Ni
 rw [D9]
 congr 1
 rcases rd with _ | ⟨b, _ | ⟨c, r⟩⟩
 ·rfl
 ·simp only [vV]
  cases mU mem b <;> rfl
 ·rfl
theorem Oq (o : aZ) (mk : Bool) (rs i : Nat) (op : Op) (mem : aD) : o.down.tr mk rs i op (aB mem) = o.tr mk rs i op mem := by
 unfold dE.tr aZ.tr
 simp only [aZ.down, List.map_map, Mm, D7]
 congr 1
 cases o.push <;> rfl
theorem Lf (mem : aD) (rs : Nat) : w4 (aB mem) rs = Hp mem rs := by
 unfold w4 Hp
 rw [aX, eM]
 cases mem[rs]? with
 | none => rfl
 | some x => cases x <;> rfl
theorem GK : ∀ mem : aD, trim (aB mem) = aB (GP mem)
 | [] => rfl
 | x :: m => by
  have H := GK m
  show (match trim (aB m) with | [] => bif LM (x.map dD.down) then [] else [x.map dD.down] | y => x.map dD.down :: y) = _
  rw [H]
  simp only [GP]
  cases GP m with
  | nil => cases x <;> rfl
  | cons y ys => rfl
theorem fB.set {env : Nat → KV} {tmps : List AV} (h : fB env tmps) {d : Nat} (J : d < tmps.length) (v : KV) : fB (mD env d v) (vW v.down tmps d) := by
 intro t
 unfold mD
 cases ht : Nat.beq t d with
 | true =>
  obtain rfl := nb.1 ht
  simp only [yl]
  cases M : eL v.down with
  | true => exact .inl (nQ.1 M)
  | false => exact .inr ⟨by rw [aX, d8, yw J], rfl⟩
 | false =>
  simp only [yk]
  have I : t ≠ d := fun e => by rw [e, yp3] at ht; cases ht
  rcases h t with H | ⟨H, K⟩
  ·exact .inl H
  ·refine .inr ⟨?_, K⟩
   rw [aX, d8, yp (fun e => I e.symm), ← aX]; exact H
theorem fB.put {env : Nat → KV} {tmps : List AV} (h : fB env tmps) {dst : Option Tmp} (H : ∀ d, dst = some d → d < tmps.length) (v : KV) : fB (y5 env dst v) (lS tmps dst v.down) := by
 cases dst with
 | none => exact h
 | some d => exact h.set (H d rfl) v
theorem nF (tmps : List AV) (dst : Option Tmp) (v : AV) : (lS tmps dst v).length = tmps.length := by
 cases dst <;> simp [lS, d8]
theorem MM {h : Option Int} {v : KV} {k : KV → Option R} {k1 : AV → Option R1} (I : ∀ w, k w = some r → k1 w.down = some r1) (H : L0 (aP R) h v k = some r) : zK h v.down k1 = some r1 := by
 unfold L0 at H
 split at H
 ·exact I _ H
 ·split at H
  ·simp only [real_guard] at H
   rw [bR] at H
   simp only [KV.down, zK, eB]
   exact ⟨H.1, I _ H.2⟩
  ·cases H
theorem Dk (ht : bG P tab) (hC : Eh C tbl) {an : lC} {tk : Bool} {rid : Nat} {Z : List (Option Tmp)} : ∀ {ops : List Oper} {i rs : Nat} {st : yP} {tr : List Tr} {k : yP → List Tr → Option R} {k1 : St → List Tr → Option R1} {tmps : List AV},
  (∀ o ∈ ops, ∀ d, o.dst = some d → d < tmps.length) → fB st.env tmps → Km (aP R) tab tbl an tk rid Z ops i rs st tr k = some r →
  (∀ M N I, k M N = some r → fB M.env I → I.length = tmps.length → k1 ⟨I, aB M.mem⟩ N = some r1) → rQ P C an tk rid Z ops i rs ⟨tmps, aB st.mem⟩ tr k1 = some r1
 | [], i, rs, st, tr, k, k1, tmps, hd, W, h, hk => hk _ _ _ h W rfl
 | o :: ops, i, rs, st, tr, k, k1, tmps, hd, W, h, hk => by
  have run : ∀ {env : Nat → KV} {H : List AV}, fB env H → H.length = tmps.length →
    (bif (bif d4 o.op then Hp st.mem rs else true) then ON (aP R) tab tbl (a7 rid i an.own) tk (a7 rid i an.boxed) (a7 rid i an.raw) (a7 rid i an.vars) o env st.mem rs fun out =>
     L0 (aP R) (Bu rid i an.hint) out.v fun v => Km (aP R) tab tbl an tk rid Z ops (i + 1) (bif d4 o.op then rs + 1 else rs) ⟨y5 env o.dst v, out.apply st.mem⟩ (out.tr (d4 o.op) rs i o.op st.mem :: tr) k else none) = some r →
    guardB (bif d4 o.op then w4 (aB st.mem) rs else true) ((FZ P C (a7 rid i an.own) tk (a7 rid i an.boxed) (a7 rid i an.raw) (a7 rid i an.vars) o (bY H) (aB st.mem) rs).bind fun out =>
     zK (Bu rid i an.hint) out.v fun v => rQ P C an tk rid Z ops (i + 1) (bif d4 o.op then rs + 1 else rs) { tmps := lS H o.dst v, mem := out.apply (aB st.mem) } (out.tr (d4 o.op) rs i o.op (aB st.mem) :: tr) k1) = some r1 := by
   intro env H J V h
   rw [bR] at h
   obtain ⟨hm, h⟩ := h
   obtain ⟨out, h, hop⟩ := NJ ht hC J h
   rw [eB]
   refine ⟨by rw [Lf]; exact hm, ?_⟩
   rw [hop]; simp only [ye]
   refine MM (fun w hw => ?_) h
   rw [Oq, ← Ln]
   exact Dk ht hC (st := ⟨y5 env o.dst w, out.apply st.mem⟩) (tmps := lS H o.dst w.down) (fun o' Y d K => by rw [nF, V]; exact hd o' (yh _ Y) d K)
    (J.put (fun d K => by rw [V]; exact hd o (ym ..) d K) w) hw (fun M N I h1 h2 h3 => hk M N I h1 h2 (by rw [h3, nF, V]))
  have skip : ∀ {env : Nat → KV} {H : List AV}, fB env H → H.length = tmps.length → Km (aP R) tab tbl an tk rid Z ops (i + 1) (bif d4 o.op then rs + 1 else rs) ⟨y5 env o.dst (.lit undef), st.mem⟩ tr k = some r →
    rQ P C an tk rid Z ops (i + 1) (bif d4 o.op then rs + 1 else rs) { tmps := lS H o.dst (.lit undef), mem := aB st.mem } tr k1 = some r1 := by
   intro env H J V h
   exact Dk ht hC (st := ⟨y5 env o.dst (.lit undef), st.mem⟩) (tmps := lS H o.dst (.lit undef)) (fun o' Y d K => by rw [nF, V]; exact hd o' (yh _ Y) d K)
    (J.put (fun d K => by rw [V]; exact hd o (ym ..) d K) (.lit undef)) h (fun M N I h1 h2 h3 => hk M N I h1 h2 (by rw [h3, nF, V]))
  simp only [Km] at h
  simp only [rQ]
  cases hgd : o.guard with
  | none =>
   rw [hgd] at h
   exact run W rfl h
  | some q =>
   obtain ⟨j, U⟩ := q
   rw [hgd] at h
   simp only at h ⊢
   rw [aX] at h
   cases hds : Z[j]? with
   | none => rw [hds] at h; cases h
   | some dd =>
    rw [hds] at h
    cases dd with
    | none => cases h
    | some d =>
     simp only at h ⊢
     have hed := W d
     cases hv : st.env d with
     | lit v =>
      rw [hv] at h hed
      rcases hed with h0 | ⟨h0, _⟩
      ·cases h0
      ·have hlt : d < tmps.length := by rw [aX] at h0; exact (yd.1 h0).1
       rw [h0]
       cases v with
       | bool b =>
        simp only [KV.down, real_ite] at h ⊢
        cases b with
        | true =>
         simp only [yl] at h ⊢
         have J := W.set hlt (.lit (.bool true))
         have O : (vW (KV.lit (.bool true)).down tmps d).length = tmps.length := by rw [d8]; simp
         cases U with
         | true => exact run J O h
         | false => exact skip J O h
        | false =>
         simp only [yk] at h ⊢
         have J := W.set hlt (.lit (.bool false))
         have O : (vW (KV.lit (.bool false)).down tmps d).length = tmps.length := by rw [d8]; simp
         cases U with
         | true => exact skip J O h
         | false => exact run J O h
       | tuple vs => exact skip W rfl h
       | _ => cases h
     | _ => rw [hv] at h; cases h
theorem Jk (ht : bG P tab) (hC : Eh C tbl) {an : lC} {rid : Nat} {ops : Array Oper} {J : Bool} {st : yP} {k : yP → Option R} {k1 : St → Option R1} {tmps : List AV} (U : ∀ o ∈ ops.toList, ∀ d, o.dst = some d → d < tmps.length) (W : fB st.env tmps)
  (h : C3 (aP R) tab tbl an rid ops J st k = some r) (V : ∀ I H, k I = some r → fB I.env H → H.length = tmps.length → k1 ⟨H, aB I.mem⟩ = some r1) : nE P C an rid ops J ⟨tmps, aB st.mem⟩ k1 = some r1 := by
 unfold C3 at h
 unfold nE
 simp only at h ⊢
 have hm : aB st.mem ++ List.replicate (oD ops.toList) none = aB (st.mem ++ List.replicate (oD ops.toList) none) := by simp [aB]
 rw [d7, hm]
 refine Dk ht hC (st := ⟨st.env, st.mem ++ List.replicate (oD ops.toList) none⟩) U W h fun I N H K M O => ?_
 rw [bR] at K
 rw [eB]
 refine ⟨K.1, ?_⟩
 simp only
 rw [GK]
 exact V ⟨I.env, GP I.mem⟩ H K.2 M O
theorem jW {b : Nat} : ∀ {l : List Nat}, eZ b l = true ↔ b ∈ l
 | [] => by simp [eZ]
 | a :: l => by
  simp only [eZ, yy1, nb, jW (l := l), yn1]
  exact ⟨fun h => h.imp Eq.symm id, fun h => h.imp Eq.symm id⟩
theorem zO : ∀ {l : List Nat} {n a : Nat}, dU n l = true → a ∈ l → n ≤ a
 | b :: l, n, a, h, H => by
  simp only [dU, yb] at h
  have I := nl.1 h.1
  cases H with
  | head => exact I
  | tail _ H => have := zO h.2 H; omega
def n8 (tmps : List AV) (i : Nat) : List Nat → List AV
 | [] => []
 | a :: l => (tmps[a - i]?).toList ++ n8 tmps i l
theorem mE {live : List Nat} : ∀ {tmps : List AV} {i : Nat} {suf : List Nat}, (∀ a, i ≤ a → (eZ a live = true ↔ a ∈ suf)) → dU i suf = true → AV.refsAll (bH live tmps i) = AV.refsAll (n8 tmps i suf)
 | [], i, suf, h, hs => by
  have : n8 [] i suf = [] := by
   clear h hs
   induction suf with
   | nil => rfl
   | cons a l M => simp [n8, M]
  rw [this]; rfl
 | v :: tmps, i, suf, h, hs => by
  have H : ∀ {l : List Nat}, dU (i + 1) l = true → n8 (v :: tmps) i l = n8 tmps (i + 1) l := by
   intro l
   induction l with
   | nil => intro _; rfl
   | cons a l M =>
    intro J
    have V := zO J (ym ..)
    simp only [dU, yb] at J
    simp only [n8]
    rw [M (incFrom_mono J.2 (by omega))]
    rw [show a - i = (a - (i + 1)) + 1 by omega, yd1]
  cases suf with
  | nil =>
   have hn : eZ i live = false := by
    cases hm : eZ i live with
    | false => rfl
    | true => have := (h i (yy _)).1 hm; cases this
   simp only [bH, hn, yk, AV.refsAll]
   rw [mE (suf := []) (fun a ha => h a (by omega)) rfl]
   rfl
  | cons a l =>
   have hs' := hs
   simp only [dU, yb] at hs
   have U := nl.1 hs.1
   by_cases e : a = i
   ·subst e
    have hm : eZ a live = true := (h a (yy _)).2 (ym ..)
    simp only [bH, hm, yl, AV.refsAll]
    rw [mE (suf := l) (fun b N => ?_) hs.2]
    ·simp only [n8, Nat.sub_self, yq2, Option.toList_some, List.singleton_append, AV.refsAll]
     rw [H hs.2]
    ·rw [h b (by omega)]
     constructor
     ·intro K
      cases K with
      | head => omega
      | tail _ x => exact x
     ·exact fun x => yh _ x
   ·have hn : eZ i live = false := by
     cases hm : eZ i live with
     | false => rfl
     | true =>
      have O := (h i (yy _)).1 hm
      have h2 := zO (l := a :: l) (n := a) (by simp only [dU, yb]; exact ⟨nl.2 (yy _), hs.2⟩) O
      omega
    have I : dU (i + 1) (a :: l) = true := by simp only [dU, yb]; exact ⟨nl.2 (by omega), hs.2⟩
    simp only [bH, hn, yk, AV.refsAll]
    rw [mE (suf := a :: l) (fun b N => h b (by omega)) I, H I]
    rfl
 where
 incFrom_mono : ∀ {l : List Nat} {n m : Nat}, dU n l = true → m ≤ n → dU m l = true
  | [], _, _, _, _ => rfl
  | a :: l, n, m, h, hm => by
   simp only [dU, yb] at h ⊢
   exact ⟨nl.2 (ya2 hm (nl.1 h.1)), h.2⟩
theorem v7 {env : Nat → KV} {tmps : List AV} (M : fB env tmps) : ∀ {live : List Nat} {k : List KV → Option R}, rI env (live.map .tmp) k = some r →
  ∃ vs, k vs = some r ∧ n8 tmps 0 live = KV.downs vs ∧ vs.length = live.length ∧ (∀ (j t : Nat), live[j]? = some t → t < tmps.length ∧ ∃ v : KV, vs[j]? = some v ∧ v ≠ .gone ∧ tmps[t]? = some v.down)
 | [], k, h => ⟨[], h, rfl, rfl, by simp⟩
 | t :: live, k, h => by
  simp only [yx1, rI] at h
  obtain ⟨v, H, h, V⟩ := aO M h
  obtain ⟨vs, h, J, N, O⟩ := v7 M h
  have ht : tmps[t]? = some v.down := by
   simp only [bY, CM] at H
   rw [aX, C7] at H
   obtain ⟨w, U, H⟩ := H
   cases I : eL w with
   | true => rw [I] at H; cases H
   | false => rw [I] at H; rw [U]; exact H
  refine ⟨v :: vs, h, by simp [n8, ht, J, KV.downs], by simp [N], fun j u K => ?_⟩
  cases j with
  | zero =>
   obtain rfl := ya K
   exact ⟨(yd.1 ht).1, v, rfl, V, ht⟩
  | succ j => exact O j u (by simpa using K)
theorem BR : ∀ {live : List Nat} {vs : List KV} {t : Nat}, dR live vs t = .gone ∨ ∃ (j : Nat) (v : KV), live[j]? = some t ∧ vs[j]? = some v ∧ dR live vs t = v
 | [], vs, t => .inl (by cases vs <;> rfl)
 | a :: live, [], t => .inl rfl
 | a :: live, v :: vs, t => by
  simp only [dR]
  cases H : Nat.beq t a with
  | true => obtain rfl := nb.1 H; exact .inr ⟨0, v, rfl, rfl, rfl⟩
  | false =>
   simp only [yk]
   rcases BR (live := live) (vs := vs) (t := t) with h | ⟨j, w, J, K, I⟩
   ·exact .inl h
   ·exact .inr ⟨j + 1, w, J, K, I⟩
theorem w7 (f : jV) : ∀ vs : List AV, (AV.renAll f vs).length = vs.length
 | [] => rfl
 | v :: vs => by simp [AV.renAll, w7 f vs]
theorem Dq (f : jV) : ∀ (vs : List AV) (j : Nat), (AV.renAll f vs)[j]? = (vs[j]?).map fun v => v.ren f
 | [], j => by simp [AV.renAll]
 | v :: vs, 0 => rfl
 | v :: vs, j + 1 => by simpa [AV.renAll] using Dq f vs j
theorem Cc (f : jV) : ∀ (vs : List KV) (j : Nat), (KV.renAll f vs)[j]? = (vs[j]?).map fun v => v.ren f
 | [], j => by simp [KV.renAll]
 | v :: vs, 0 => rfl
 | v :: vs, j + 1 => by simpa [KV.renAll] using Cc f vs j
theorem p4 {live : List Nat} : ∀ (tmps : List AV) (i : Nat), (bH live tmps i).length = tmps.length
 | [], _ => rfl
 | v :: tmps, i => by simp [bH, p4 tmps]
theorem Bh {live : List Nat} : ∀ (tmps : List AV) (i j : Nat), (bH live tmps i)[j]? = (tmps[j]?).map fun v => bif eZ (i + j) live then v else .goneV
 | [], i, j => by simp [bH]
 | v :: tmps, i, 0 => by simp [bH]
 | v :: tmps, i, j + 1 => by
  simp only [bH, yd1, Bh tmps]
  rw [show i + 1 + j = i + (j + 1) by omega]
theorem yJ {m : Nat} {vs ws : List AV} (h : AV.refsAll vs = AV.refsAll ws) : ∀ (n : Nat) (mem : aH), lX m vs n mem = lX m ws n mem
 | 0, _ => rfl
 | n + 1, mem => by
  simp only [lX, h]
  cases iH m (AV.refsAll ws ++ b9 mem) mem mem 0 with
  | none => rfl
  | some q =>
   simp only
   cases oX mem q.1 q.2 with
   | none => rfl
   | some mem' => simp only [ye, yJ h n mem']
theorem AK {m : Nat} {vs ws : List AV} (h : AV.refsAll vs = AV.refsAll ws) : ∀ (n : Nat) (mem : aH), p9 m vs n mem = p9 m ws n mem
 | 0, _ => rfl
 | b + 1, mem => by simp only [p9, h, AK h b]
theorem Cr {m : Nat} {vs ws : List AV} (h : AV.refsAll vs = AV.refsAll ws) (mem : aH) : CH m vs mem = CH m ws mem := by
 unfold CH; rw [AK h, yJ h]
theorem G7 {keep : Bool} {old : List (Option Bool)} {live : List Nat} {st : yP} {k : yP → Option R} {tmps : List AV} (he : fB st.env tmps) (hs : dU 0 live = true) (h : Gr (aP R) keep old live st k = some r) :
  ∃ N I, k N = some r ∧ Iy keep old live ⟨tmps, aB st.mem⟩ = some ⟨I, aB N.mem⟩ ∧ fB N.env I ∧ I.length = tmps.length := by
 unfold Gr at h
 obtain ⟨vs, h, W, hl, hj⟩ := v7 he h
 unfold BF at h
 obtain ⟨H, h, K⟩ := zH h
 simp only at h
 rw [bR] at h
 obtain ⟨hg, h⟩ := h
 have J : AV.refsAll (bH live tmps 0) = KV.refsAll vs := by
  rw [mE (suf := live) (fun a _ => jW) hs, W, bW]
 rw [Cr (ws := bH live tmps 0) (by rw [J, bW])] at K
 generalize O : sS H (jU H (old.length + (KV.refsAll vs).length)) (oA 0 old.length ++ KV.refsAll vs) [] = ids at h hg
 refine ⟨_, AV.renAll (mM old.length keep H ids) (bH live tmps 0), h, ?_, ?_, by rw [w7, p4]⟩
 ·have hc : rE keep old (bH live tmps 0) (aB st.mem) = some (AV.renAll (mM old.length keep H ids) (bH live tmps 0), aB (o8 old.length keep (mM old.length keep H ids) H 0 ids)) := by
   unfold rE
   rw [K]
   simp only [ye, J, Bl, q7, qZ, zC, v8, O]
   rw [eB]
   exact ⟨hg, rfl⟩
  simp only [Iy, hc, yg]
 ·intro t
  rcases BR (live := live) (vs := KV.renAll (mM old.length keep H ids) vs) (t := t) with V | ⟨j, v, V, h2, h3⟩
  ·exact .inl V
  ·right
   rw [Cc] at h2
   obtain ⟨v0, hv0, rfl⟩ := yc.1 h2
   obtain ⟨hlt, w, hw, M, Z⟩ := hj j t V
   rw [hv0] at hw
   obtain rfl := ya hw
   have U : eZ t live = true := jW.2 (yt V)
   simp only [h3]
   refine ⟨?_, ?_⟩
   ·rw [aX, Dq, Bh, yc1, U, Z]
    simp only [yl, yg, vD]
   ·cases Y : eL (v0.ren (mM old.length keep H ids)).down with
    | false => rfl
    | true =>
     exfalso
     have := nQ.1 Y
     cases v0 <;> simp only [KV.ren] at this <;> first | exact M rfl | cases this | (split at this <;> cases this)
theorem MC {i c : Nat} {β ag : Bool} {T : Ty} {J : List (den T)} {hs : c5} {nb : Nat} {k : KV → c5 → List KRow → Option R} {xs : List PV} {p q : PV}
  (K : xs[i]? = some p) (M : p.cells[c]? = some q) (H : q = dN ag T J) (h : A1 (aP R) true i c (.tsl β ag T J) hs nb k = some r) :
  ∃ a hs' rows, k a hs' rows = some r ∧ ∃ v, nR true xs i c (.sl 0 0) (aV hs) nb = some (v, aV hs', rows.map KRow.down) := by
 unfold A1 at h
 unfold nR
 simp only [K, M, ye, vS]
 cases I : lK c hs with
 | some N =>
  rw [I] at h
  simp only [real_guard] at h
  rw [bR] at h
  refine ⟨_, _, _, h.2, N.2.down, ?_⟩
  simp only [yg]
  rw [eB]
  exact ⟨h.1, rfl⟩
 | none =>
  rw [I] at h
  simp only [yl] at h
  refine ⟨_, _, _, h, .msw nb 0, ?_⟩
  simp only [yh2, y8, yk]
  rw [eB]
  exact ⟨rfl, by rw [H, FQ]; rfl⟩
theorem I9 {s : KV} {n c : Nat} {k : aD → Option R} (h : Hr (aP R) mem s n c k = some r) : ∃ mem', k mem' = some r ∧ BE (aB mem) s.down n c = some (aB mem') := by
 unfold Hr at h
 split at h
 ·rename_i b g
  obtain ⟨K, N, h⟩ := eW h
  split at h
  ·rename_i T xs hs I
   simp only [real_getN] at h
   rw [C7] at h
   obtain ⟨x, W, h⟩ := h
   split at h
   ·rename_i β ag Z Y H
    rw [aX] at H
    obtain ⟨y, V, M⟩ := (dF.of true T x).2 _ _ H
    have J : y = dN ag Z Y := by
     rcases M with ⟨_, _, e, _⟩ | ⟨_, e, _⟩ | ⟨_, e, _⟩ | ⟨_, _, _, e, rfl⟩ <;> cases e
     rfl
    have U : (xs.map (cT (eY T) T))[n]? = some (cT (eY T) T x) := by rw [yb1, W]; rfl
    obtain ⟨_, hs', rows, h, v, hr⟩ := MC U (by rw [b6]; exact V) J h
    refine ⟨_, h, ?_⟩
    have O : K.down.row = .own T.size (xs.map (cT (eY T) T)) (aV hs) := by rw [show K.down.row = K.row.down from rfl, I]; rfl
    simp only [KV.down, BE, N, ye, O]
    rw [d7, hr, yg, H2, pQ, qC]; rfl
   ·cases h
  ·cases h
 ·cases h
theorem Nb {H : Nat} {v : KV} {k : KV → Option R} (h : Nq mem H v k = some r) : ∃ s, k s = some r ∧ NP (aB mem) H v.down = some s.down := by
 unfold Nq at h
 split at h
 ·rename_i b g i c
  obtain ⟨x, N, h⟩ := cQ h
  split at h
  ·rename_i e cs I
   split at h
   ·rename_i v K
    rw [aX] at K
    refine ⟨v, h, ?_⟩
    have M : x.down.row = .cells e (KV.downs cs) := by rw [show x.down.row = x.row.down from rfl, I]; rfl
    simp only [KV.down, NP, N, ye, M]
    exact o9 K
   ·cases h
  ·cases h
 ·rename_i J
  refine ⟨v, h, ?_⟩
  cases v with
  | ptr b g i c => exact (J _ _ _ _ rfl).elim
  | _ => rfl
theorem MZ {env : Nat → KV} {tmps : List AV} (H : fB env tmps) {q : Operand × Nat × Operand × Nat} {k : aD → Option R} (h : NV (aP R) env mem q k = some r) : ∃ mem', k mem' = some r ∧ LB tmps (aB mem) q = some (aB mem') := by
 unfold NV at h
 obtain ⟨p, K, h, _⟩ := aO H h
 obtain ⟨s, h, hs⟩ := Nb h
 obtain ⟨v, J, h, _⟩ := aO H h
 split at h
 ·rename_i kd n
  simp only [real_guard] at h
  rw [bR] at h
  obtain ⟨mem', I, ht⟩ := I9 h.2
  refine ⟨mem', I, ?_⟩
  simp only [LB, K, hs, J, ye, KV.down]
  rw [eB]
  exact ⟨h.1, ht⟩
 ·cases h
theorem Fk {env : Nat → KV} {tmps : List AV} (J : fB env tmps) : ∀ {l : List (Operand × Nat × Operand × Nat)} {mem : aD} {k : aD → Option R}, Ig (aP R) env l mem k = some r → ∃ mem', k mem' = some r ∧ BH tmps l (aB mem) = some (aB mem')
 | [], mem, k, h => ⟨mem, h, rfl⟩
 | q :: l, mem, k, h => by
  simp only [Ig] at h
  obtain ⟨I, h, K⟩ := MZ J h
  obtain ⟨H, h, M⟩ := Fk J h
  exact ⟨H, h, by simp only [BH, K, ye, M]⟩
theorem Mh {an : lC} {rid : Nat} {old : List (Option Bool)} {st : yP} {k : yP → Option R} {tmps : List AV} (he : fB st.env tmps) (h : LQ (aP R) an rid old st k = some r) :
  ∃ M H, k M = some r ∧ Gb an rid old ⟨tmps, aB st.mem⟩ = some ⟨H, aB M.mem⟩ ∧ fB M.env H ∧ H.length = tmps.length := by
 unfold LQ at h
 unfold Gb
 cases hq : eE rid an.tidy with
 | none => rw [hq] at h; exact ⟨st, tmps, h, rfl, he, rfl⟩
 | some q =>
  rw [hq] at h
  simp only at h ⊢
  rw [bR] at h
  obtain ⟨hs, h⟩ := h
  obtain ⟨vs, h, V, hl, hj⟩ := v7 he h
  obtain ⟨mem1, h, I⟩ := zH h
  have J : AV.refsAll (bH q.1 tmps 0) = KV.refsAll vs := by
   rw [mE (suf := q.1) (fun a _ => jW) hs, V, bW]
  rw [Cr (ws := bH q.1 tmps 0) (by rw [J, bW])] at I
  have O : fB (dR q.1 vs) (bH q.1 tmps 0) := by
   intro t
   rcases BR (live := q.1) (vs := vs) (t := t) with U | ⟨j, v, U, h2, h3⟩
   ·exact .inl U
   ·right
    obtain ⟨hlt, w, hw, K, Y⟩ := hj j t U
    rw [h2] at hw
    obtain rfl := ya hw
    have N : eZ t q.1 = true := jW.2 (yt U)
    rw [h3]
    refine ⟨by rw [aX, Bh, yc1, N, Y]; rfl, ?_⟩
    cases W : eL v.down with
    | false => rfl
    | true => exact (K (nQ.1 W)).elim
  obtain ⟨mem2, h, Z⟩ := Fk O h
  refine ⟨_, bH q.1 tmps 0, h, ?_, O, p4 _ _⟩
  rw [I, ye, Z, yg]
end
end Go.Ab
