import Derived.Test.YtdlbbdbbpoggfaaLib20
set_option linter.unusedVariables false
set_option linter.unusedSectionVars false
set_option linter.unusedSimpArgs false
namespace Go.Ab
variable [b4]
section
variable {P : Program} {R R1 : Type} {r : R} {r1 : R1} {mem : aD} {tab : TypeId → Option TI} {C : bQ} {tbl : FuncId → List aC}
theorem CF : ∀ (wr : List (Nat × dE)) (mem : aD), aB (v7 mem wr) = aJ (aB mem) (wr.map fun q => (q.1, q.2.down))
 | [], mem => rfl
 | (b, x) :: wr, mem => by
  simp only [v7, yx1, aJ, d5]
  rw [CF wr]
  congr 1
  simp [aB, List.map_set]
theorem KJ (o : aZ) (mem : aD) : aB (o.apply mem) = o.down.apply (aB mem) := by
 unfold aZ.apply dD.apply
 have : aB (v7 mem o.wr ++ o.push) = aB (v7 mem o.wr) ++ aB o.push := by simp [aB]
 rw [this, CF]; rfl
theorem Fa (v : KV) : nN v.down = G9 v := by
 cases v <;> rfl
theorem Aq (x : dE) : gS x.down = Af x := by
 obtain ⟨g, f, row⟩ := x
 cases row with
 | os => rfl
 | ts β ag T xs =>
  unfold gS Af dE.down KRow.down
  simp only
  cases dL ag T xs <;> rfl
 | cells e cs =>
  show some (g, e, (KV.downs cs).map nN) = some (g, e, cs.map G9)
  rw [cZ, List.map_map]
  congr 3
  exact List.map_congr_left fun v _ => Fa v
theorem s5 (mem : aD) (b : Nat) : aT (aB mem) b = mV mem b := by
 unfold aT mV
 rw [aX, eM]
 cases mem[b]? with
 | none => rfl
 | some x =>
  cases x with
  | none => rfl
  | some x => exact Aq x
theorem FE (mem : aD) (wr : List (Nat × dE)) : o9 (aB mem) (wr.map fun q => (q.1, q.2.down)) = yR mem wr := by
 funext b
 unfold o9 yR
 rw [List.all_map]
 congr 1
 funext q
 simp only [Function.comp, Aq, s5]
theorem Mv (op : Op) (mem : aD) (v : KV) (rd : List Nat) : MA op (aB mem) v.down rd = NO op mem v rd := by
 unfold MA NO
 rw [Fa]
 congr 1
 rcases rd with _ | ⟨b, _ | ⟨c, r⟩⟩
 ·rfl
 ·simp only [s5]
  cases mV mem b <;> rfl
 ·rfl
theorem OU (o : aZ) (mk : Bool) (rs i : Nat) (op : Op) (mem : aD) : o.down.tr mk rs i op (aB mem) = o.tr mk rs i op mem := by
 unfold dD.tr aZ.tr
 simp only [aZ.down, List.map_map, Mv, FE]
 congr 1
 cases o.push <;> rfl
theorem KU (mem : aD) (rs : Nat) : x9 (aB mem) rs = Hb mem rs := by
 unfold x9 Hb
 rw [aX, eM]
 cases mem[rs]? with
 | none => rfl
 | some x => cases x <;> rfl
theorem Gz : ∀ mem : aD, trim (aB mem) = aB (GQ mem)
 | [] => rfl
 | x :: m => by
  have H := Gz m
  show (match trim (aB m) with | [] => bif LI (x.map dE.down) then [] else [x.map dE.down] | y => x.map dE.down :: y) = _
  rw [H]
  simp only [GQ]
  cases GQ m with
  | nil => cases x <;> rfl
  | cons y ys => rfl
theorem fB.set {env : Nat → KV} {tmps : List AV} (h : fB env tmps) {d : Nat} (J : d < tmps.length) (v : KV) : fB (mT env d v) (sU v.down tmps d) := by
 intro t
 unfold mT
 cases ht : Nat.beq t d with
 | true =>
  obtain rfl := nb.1 ht
  simp only [yl]
  cases M : eL v.down with
  | true => exact .inl (nM.1 M)
  | false => exact .inr ⟨by rw [aX, d5, yw J], rfl⟩
 | false =>
  simp only [yk]
  have I : t ≠ d := fun e => by rw [e, yp3] at ht; cases ht
  rcases h t with H | ⟨H, K⟩
  ·exact .inl H
  ·refine .inr ⟨?_, K⟩
   rw [aX, d5, yp (fun e => I e.symm), ← aX]; exact H
theorem fB.put {env : Nat → KV} {tmps : List AV} (h : fB env tmps) {dst : Option Tmp} (H : ∀ d, dst = some d → d < tmps.length) (v : KV) : fB (yV env dst v) (lZ tmps dst v.down) := by
 cases dst with
 | none => exact h
 | some d => exact h.set (H d rfl) v
theorem nK (tmps : List AV) (dst : Option Tmp) (v : AV) : (lZ tmps dst v).length = tmps.length := by
 cases dst <;> simp [lZ, d5]
theorem MT {h : Option Int} {v : KV} {k : KV → Option R} {k1 : AV → Option R1} (I : ∀ w, k w = some r → k1 w.down = some r1) (H : LV (aP R) h v k = some r) : yS h v.down k1 = some r1 := by
 unfold LV at H
 split at H
 ·exact I _ H
 ·split at H
  ·simp only [real_guard] at H
   rw [bP] at H
   simp only [KV.down, yS, d9]
   exact ⟨H.1, I _ H.2⟩
  ·cases H
theorem Fv (ht : bI P tab) (hC : Ft C tbl) {an : lA} {tk : Bool} {rid : Nat} {W : List (Option Tmp)} : ∀ {ops : List Oper} {i rs : Nat} {st : w9} {tr : List Tr} {k : w9 → List Tr → Option R} {k1 : St → List Tr → Option R1} {tmps : List AV},
  (∀ o ∈ ops, ∀ d, o.dst = some d → d < tmps.length) → fB st.env tmps → K2 (aP R) tab tbl an tk rid W ops i rs st tr k = some r →
  (∀ M N I, k M N = some r → fB M.env I → I.length = tmps.length → k1 ⟨I, aB M.mem⟩ N = some r1) → rN P C an tk rid W ops i rs ⟨tmps, aB st.mem⟩ tr k1 = some r1
 | [], i, rs, st, tr, k, k1, tmps, hd, V, h, hk => hk _ _ _ h V rfl
 | o :: ops, i, rs, st, tr, k, k1, tmps, hd, V, h, hk => by
  have run : ∀ {env : Nat → KV} {H : List AV}, fB env H → H.length = tmps.length →
    (bif (bif dY o.op then Hb st.mem rs else true) then OH (aP R) tab tbl (a7 rid i an.own) tk (a7 rid i an.boxed) (a7 rid i an.raw) (a7 rid i an.vars) o env st.mem rs fun out =>
     LV (aP R) (By rid i an.hint) out.v fun v => K2 (aP R) tab tbl an tk rid W ops (i + 1) (bif dY o.op then rs + 1 else rs) ⟨yV env o.dst v, out.apply st.mem⟩ (out.tr (dY o.op) rs i o.op st.mem :: tr) k else none) = some r →
    guardB (bif dY o.op then x9 (aB st.mem) rs else true) ((F9 P C (a7 rid i an.own) tk (a7 rid i an.boxed) (a7 rid i an.raw) (a7 rid i an.vars) o (bW H) (aB st.mem) rs).bind fun out =>
     yS (By rid i an.hint) out.v fun v => rN P C an tk rid W ops (i + 1) (bif dY o.op then rs + 1 else rs) { tmps := lZ H o.dst v, mem := out.apply (aB st.mem) } (out.tr (dY o.op) rs i o.op (aB st.mem) :: tr) k1) = some r1 := by
   intro env H J Y h
   rw [bP] at h
   obtain ⟨hm, h⟩ := h
   obtain ⟨out, h, hop⟩ := NP ht hC J h
   rw [d9]
   refine ⟨by rw [KU]; exact hm, ?_⟩
   rw [hop]; simp only [ye]
   refine MT (fun w hw => ?_) h
   rw [OU, ← KJ]
   exact Fv ht hC (st := ⟨yV env o.dst w, out.apply st.mem⟩) (tmps := lZ H o.dst w.down) (fun o' Z d K => by rw [nK, Y]; exact hd o' (yh _ Z) d K)
    (J.put (fun d K => by rw [Y]; exact hd o (ym ..) d K) w) hw (fun M N I h1 h2 h3 => hk M N I h1 h2 (by rw [h3, nK, Y]))
  have skip : ∀ {env : Nat → KV} {H : List AV}, fB env H → H.length = tmps.length → K2 (aP R) tab tbl an tk rid W ops (i + 1) (bif dY o.op then rs + 1 else rs) ⟨yV env o.dst (.lit undef), st.mem⟩ tr k = some r →
    rN P C an tk rid W ops (i + 1) (bif dY o.op then rs + 1 else rs) { tmps := lZ H o.dst (.lit undef), mem := aB st.mem } tr k1 = some r1 := by
   intro env H J Y h
   exact Fv ht hC (st := ⟨yV env o.dst (.lit undef), st.mem⟩) (tmps := lZ H o.dst (.lit undef)) (fun o' Z d K => by rw [nK, Y]; exact hd o' (yh _ Z) d K)
    (J.put (fun d K => by rw [Y]; exact hd o (ym ..) d K) (.lit undef)) h (fun M N I h1 h2 h3 => hk M N I h1 h2 (by rw [h3, nK, Y]))
  simp only [K2] at h
  simp only [rN]
  cases hgd : o.guard with
  | none =>
   rw [hgd] at h
   exact run V rfl h
  | some q =>
   obtain ⟨j, U⟩ := q
   rw [hgd] at h
   simp only at h ⊢
   rw [aX] at h
   cases hds : W[j]? with
   | none => rw [hds] at h; cases h
   | some dd =>
    rw [hds] at h
    cases dd with
    | none => cases h
    | some d =>
     simp only at h ⊢
     have hed := V d
     cases hv : st.env d with
     | lit v =>
      rw [hv] at h hed
      rcases hed with h0 | ⟨h0, _⟩
      ·cases h0
      ·have hlt : d < tmps.length := by rw [aX] at h0; exact (yd.1 h0).1
       rw [h0]
       cases v with
       | bool b =>
        simp only [KV.down, real_ite] at h ⊢
        cases b with
        | true =>
         simp only [yl] at h ⊢
         have J := V.set hlt (.lit (.bool true))
         have O : (sU (KV.lit (.bool true)).down tmps d).length = tmps.length := by rw [d5]; simp
         cases U with
         | true => exact run J O h
         | false => exact skip J O h
        | false =>
         simp only [yk] at h ⊢
         have J := V.set hlt (.lit (.bool false))
         have O : (sU (KV.lit (.bool false)).down tmps d).length = tmps.length := by rw [d5]; simp
         cases U with
         | true => exact skip J O h
         | false => exact run J O h
       | tuple vs => exact skip V rfl h
       | _ => cases h
     | _ => rw [hv] at h; cases h
theorem IG (ht : bI P tab) (hC : Ft C tbl) {an : lA} {rid : Nat} {ops : Array Oper} {J : Bool} {st : w9} {k : w9 → Option R} {k1 : St → Option R1} {tmps : List AV} (O : ∀ o ∈ ops.toList, ∀ d, o.dst = some d → d < tmps.length) (M : fB st.env tmps)
  (h : Db (aP R) tab tbl an rid ops J st k = some r) (U : ∀ I H, k I = some r → fB I.env H → H.length = tmps.length → k1 ⟨H, aB I.mem⟩ = some r1) : nC P C an rid ops J ⟨tmps, aB st.mem⟩ k1 = some r1 := by
 unfold Db at h
 unfold nC
 simp only at h ⊢
 have hm : aB st.mem ++ List.replicate (nZ ops.toList) none = aB (st.mem ++ List.replicate (nZ ops.toList) none) := by simp [aB]
 rw [d8, hm]
 refine Fv ht hC (st := ⟨st.env, st.mem ++ List.replicate (nZ ops.toList) none⟩) O M h fun I N H K V W => ?_
 rw [bP] at K
 rw [d9]
 refine ⟨K.1, ?_⟩
 simp only
 rw [Gz]
 exact U ⟨I.env, GQ I.mem⟩ H K.2 V W
theorem kA {b : Nat} : ∀ {l : List Nat}, eZ b l = true ↔ b ∈ l
 | [] => by simp [eZ]
 | a :: l => by
  simp only [eZ, yy1, nb, kA (l := l), yn1]
  exact ⟨fun h => h.imp Eq.symm id, fun h => h.imp Eq.symm id⟩
theorem yW : ∀ {l : List Nat} {n a : Nat}, dS n l = true → a ∈ l → n ≤ a
 | b :: l, n, a, h, H => by
  simp only [dS, yb] at h
  have I := nl.1 h.1
  cases H with
  | head => exact I
  | tail _ H => have := yW h.2 H; omega
def oC (tmps : List AV) (i : Nat) : List Nat → List AV
 | [] => []
 | a :: l => (tmps[a - i]?).toList ++ oC tmps i l
theorem mY {live : List Nat} : ∀ {tmps : List AV} {i : Nat} {suf : List Nat}, (∀ a, i ≤ a → (eZ a live = true ↔ a ∈ suf)) → dS i suf = true → AV.refsAll (bH live tmps i) = AV.refsAll (oC tmps i suf)
 | [], i, suf, h, hs => by
  have : oC [] i suf = [] := by
   clear h hs
   induction suf with
   | nil => rfl
   | cons a l M => simp [oC, M]
  rw [this]; rfl
 | v :: tmps, i, suf, h, hs => by
  have H : ∀ {l : List Nat}, dS (i + 1) l = true → oC (v :: tmps) i l = oC tmps (i + 1) l := by
   intro l
   induction l with
   | nil => intro _; rfl
   | cons a l M =>
    intro K
    have U := yW K (ym ..)
    simp only [dS, yb] at K
    simp only [oC]
    rw [M (incFrom_mono K.2 (by omega))]
    rw [show a - i = (a - (i + 1)) + 1 by omega, yd1]
  cases suf with
  | nil =>
   have hn : eZ i live = false := by
    cases hm : eZ i live with
    | false => rfl
    | true => have := (h i (yy _)).1 hm; cases this
   simp only [bH, hn, yk, AV.refsAll]
   rw [mY (suf := []) (fun a ha => h a (by omega)) rfl]
   rfl
  | cons a l =>
   have hs' := hs
   simp only [dS, yb] at hs
   have V := nl.1 hs.1
   by_cases e : a = i
   ·subst e
    have hm : eZ a live = true := (h a (yy _)).2 (ym ..)
    simp only [bH, hm, yl, AV.refsAll]
    rw [mY (suf := l) (fun b N => ?_) hs.2]
    ·simp only [oC, Nat.sub_self, yq2, Option.toList_some, List.singleton_append, AV.refsAll]
     rw [H hs.2]
    ·rw [h b (by omega)]
     constructor
     ·intro J
      cases J with
      | head => omega
      | tail _ x => exact x
     ·exact fun x => yh _ x
   ·have hn : eZ i live = false := by
     cases hm : eZ i live with
     | false => rfl
     | true =>
      have O := (h i (yy _)).1 hm
      have h2 := yW (l := a :: l) (n := a) (by simp only [dS, yb]; exact ⟨nl.2 (yy _), hs.2⟩) O
      omega
    have I : dS (i + 1) (a :: l) = true := by simp only [dS, yb]; exact ⟨nl.2 (by omega), hs.2⟩
    simp only [bH, hn, yk, AV.refsAll]
    rw [mY (suf := a :: l) (fun b N => h b (by omega)) I, H I]
    rfl
 where
 incFrom_mono : ∀ {l : List Nat} {n m : Nat}, dS n l = true → m ≤ n → dS m l = true
  | [], _, _, _, _ => rfl
  | a :: l, n, m, h, hm => by
   simp only [dS, yb] at h ⊢
   exact ⟨nl.2 (ya2 hm (nl.1 h.1)), h.2⟩
theorem wF {env : Nat → KV} {tmps : List AV} (K : fB env tmps) : ∀ {live : List Nat} {k : List KV → Option R}, q9 env (live.map .tmp) k = some r →
  ∃ vs, k vs = some r ∧ oC tmps 0 live = KV.downs vs ∧ vs.length = live.length ∧ (∀ (j t : Nat), live[j]? = some t → t < tmps.length ∧ ∃ v : KV, vs[j]? = some v ∧ v ≠ .gone ∧ tmps[t]? = some v.down)
 | [], k, h => ⟨[], h, rfl, rfl, by simp⟩
 | t :: live, k, h => by
  simp only [yx1, q9] at h
  obtain ⟨v, H, h, V⟩ := aO K h
  obtain ⟨vs, h, J, N, O⟩ := wF K h
  have ht : tmps[t]? = some v.down := by
   simp only [bW, CV] at H
   rw [aX, C3] at H
   obtain ⟨w, U, H⟩ := H
   cases I : eL w with
   | true => rw [I] at H; cases H
   | false => rw [I] at H; rw [U]; exact H
  refine ⟨v :: vs, h, by simp [oC, ht, J, KV.downs], by simp [N], fun j u M => ?_⟩
  cases j with
  | zero =>
   obtain rfl := ya M
   exact ⟨(yd.1 ht).1, v, rfl, V, ht⟩
  | succ j => exact O j u (by simpa using M)
theorem Be : ∀ {live : List Nat} {vs : List KV} {t : Nat}, dP live vs t = .gone ∨ ∃ (j : Nat) (v : KV), live[j]? = some t ∧ vs[j]? = some v ∧ dP live vs t = v
 | [], vs, t => .inl (by cases vs <;> rfl)
 | a :: live, [], t => .inl rfl
 | a :: live, v :: vs, t => by
  simp only [dP]
  cases H : Nat.beq t a with
  | true => obtain rfl := nb.1 H; exact .inr ⟨0, v, rfl, rfl, rfl⟩
  | false =>
   simp only [yk]
   rcases Be (live := live) (vs := vs) (t := t) with h | ⟨j, w, I, J, K⟩
   ·exact .inl h
   ·exact .inr ⟨j + 1, w, I, J, K⟩
theorem w3 (f : jS) : ∀ vs : List AV, (AV.renAll f vs).length = vs.length
 | [] => rfl
 | v :: vs => by simp [AV.renAll, w3 f vs]
theorem D4 (f : jS) : ∀ (vs : List AV) (j : Nat), (AV.renAll f vs)[j]? = (vs[j]?).map fun v => v.ren f
 | [], j => by simp [AV.renAll]
 | v :: vs, 0 => rfl
 | v :: vs, j + 1 => by simpa [AV.renAll] using D4 f vs j
theorem Cu (f : jS) : ∀ (vs : List KV) (j : Nat), (KV.renAll f vs)[j]? = (vs[j]?).map fun v => v.ren f
 | [], j => by simp [KV.renAll]
 | v :: vs, 0 => rfl
 | v :: vs, j + 1 => by simpa [KV.renAll] using Cu f vs j
theorem qW {live : List Nat} : ∀ (tmps : List AV) (i : Nat), (bH live tmps i).length = tmps.length
 | [], _ => rfl
 | v :: tmps, i => by simp [bH, qW tmps]
theorem BD {live : List Nat} : ∀ (tmps : List AV) (i j : Nat), (bH live tmps i)[j]? = (tmps[j]?).map fun v => bif eZ (i + j) live then v else .goneV
 | [], i, j => by simp [bH]
 | v :: tmps, i, 0 => by simp [bH]
 | v :: tmps, i, j + 1 => by
  simp only [bH, yd1, BD tmps]
  rw [show i + 1 + j = i + (j + 1) by omega]
theorem x7 {m : Nat} {vs ws : List AV} (h : AV.refsAll vs = AV.refsAll ws) : ∀ (n : Nat) (mem : aH), lR m vs n mem = lR m ws n mem
 | 0, _ => rfl
 | n + 1, mem => by
  simp only [lR, h]
  cases iH m (AV.refsAll ws ++ cE mem) mem mem 0 with
  | none => rfl
  | some q =>
   simp only
   cases oU mem q.1 q.2 with
   | none => rfl
   | some mem' => simp only [ye, x7 h n mem']
theorem Aw {m : Nat} {vs ws : List AV} (h : AV.refsAll vs = AV.refsAll ws) : ∀ (n : Nat) (mem : aH), qN m vs n mem = qN m ws n mem
 | 0, _ => rfl
 | b + 1, mem => by simp only [qN, h, Aw h b]
theorem Cq {m : Nat} {vs ws : List AV} (h : AV.refsAll vs = AV.refsAll ws) (mem : aH) : Ci m vs mem = Ci m ws mem := by
 unfold Ci; rw [Aw h, x7 h]
theorem GT {keep : Bool} {old : List (Option Bool)} {live : List Nat} {st : w9} {k : w9 → Option R} {tmps : List AV} (he : fB st.env tmps) (hs : dS 0 live = true) (h : Gv (aP R) keep old live st k = some r) :
  ∃ N I, k N = some r ∧ Jb keep old live ⟨tmps, aB st.mem⟩ = some ⟨I, aB N.mem⟩ ∧ fB N.env I ∧ I.length = tmps.length := by
 unfold Gv at h
 obtain ⟨vs, h, W, hl, hj⟩ := wF he h
 unfold A3 at h
 obtain ⟨H, h, K⟩ := zF h
 simp only at h
 rw [bP] at h
 obtain ⟨hg, h⟩ := h
 have J : AV.refsAll (bH live tmps 0) = KV.refsAll vs := by
  rw [mY (suf := live) (fun a _ => kA) hs, W, bZ]
 rw [Cq (ws := bH live tmps 0) (by rw [J, bZ])] at K
 generalize O : vU H (j3 H (old.length + (KV.refsAll vs).length)) (oE 0 old.length ++ KV.refsAll vs) [] = ids at h hg
 refine ⟨_, AV.renAll (mQ old.length keep H ids) (bH live tmps 0), h, ?_, ?_, by rw [w3, qW]⟩
 ·have hc : rK keep old (bH live tmps 0) (aB st.mem) = some (AV.renAll (mQ old.length keep H ids) (bH live tmps 0), aB (oN old.length keep (mQ old.length keep H ids) H 0 ids)) := by
   unfold rK
   rw [K]
   simp only [ye, J, Bq, q8, p3, y6, wN, O]
   rw [d9]
   exact ⟨hg, rfl⟩
  simp only [Jb, hc, yg]
 ·intro t
  rcases Be (live := live) (vs := KV.renAll (mQ old.length keep H ids) vs) (t := t) with V | ⟨j, v, V, h2, h3⟩
  ·exact .inl V
  ·right
   rw [Cu] at h2
   obtain ⟨v0, hv0, rfl⟩ := yc.1 h2
   obtain ⟨hlt, w, hw, M, Z⟩ := hj j t V
   rw [hv0] at hw
   obtain rfl := ya hw
   have U : eZ t live = true := kA.2 (yt V)
   simp only [h3]
   refine ⟨?_, ?_⟩
   ·rw [aX, D4, BD, yc1, U, Z]
    simp only [yl, yg, u0]
   ·cases Y : eL (v0.ren (mQ old.length keep H ids)).down with
    | false => rfl
    | true =>
     exfalso
     have := nM.1 Y
     cases v0 <;> simp only [KV.ren] at this <;> first | exact M rfl | cases this | (split at this <;> cases this)
theorem MS {i c : Nat} {β ag : Bool} {T : Ty} {J : List (den T)} {hs : cY} {nb : Nat} {k : KV → cY → List KRow → Option R} {xs : List PV} {p q : PV}
  (M : xs[i]? = some p) (N : p.cells[c]? = some q) (H : q = dL ag T J) (h : Bm (aP R) true i c (.tsl β ag T J) hs nb k = some r) :
  ∃ a hs' rows, k a hs' rows = some r ∧ ∃ v, nH true xs i c (.sl 0 0) (aV hs) nb = some (v, aV hs', rows.map KRow.down) := by
 unfold Bm at h
 unfold nH
 simp only [M, N, ye, vI]
 cases I : lD c hs with
 | some K =>
  rw [I] at h
  simp only [real_guard] at h
  rw [bP] at h
  refine ⟨_, _, _, h.2, K.2.down, ?_⟩
  simp only [yg]
  rw [d9]
  exact ⟨h.1, rfl⟩
 | none =>
  rw [I] at h
  simp only [yl] at h
  refine ⟨_, _, _, h, .msw nb 0, ?_⟩
  simp only [yh2, y7, yk]
  rw [d9]
  exact ⟨rfl, by rw [H, Fo]; rfl⟩
theorem JT {s : KV} {n c : Nat} {k : aD → Option R} (h : HV (aP R) mem s n c k = some r) : ∃ mem', k mem' = some r ∧ BS (aB mem) s.down n c = some (aB mem') := by
 unfold HV at h
 split at h
 ·rename_i b g
  obtain ⟨N, M, h⟩ := eU h
  split at h
  ·rename_i T xs hs J
   simp only [real_getN] at h
   rw [C3] at h
   obtain ⟨x, Y, h⟩ := h
   split at h
   ·rename_i β ag W Z H
    rw [aX] at H
    obtain ⟨y, V, K⟩ := (dF.of true T x).2 _ _ H
    have I : y = dL ag W Z := by
     rcases K with ⟨_, _, e, _⟩ | ⟨_, e, _⟩ | ⟨_, e, _⟩ | ⟨_, _, _, e, rfl⟩ <;> cases e
     rfl
    have U : (xs.map (cT (eW T) T))[n]? = some (cT (eW T) T x) := by rw [yb1, Y]; rfl
    obtain ⟨_, hs', rows, h, v, hr⟩ := MS U (by rw [b7]; exact V) I h
    refine ⟨_, h, ?_⟩
    have O : N.down.row = .own T.size (xs.map (cT (eW T) T)) (aV hs) := by rw [show N.down.row = N.row.down from rfl, J]; rfl
    simp only [KV.down, BS, M, ye, O]
    rw [d8, hr, yg, Hi, qV, p4]; rfl
   ·cases h
  ·cases h
 ·cases h
theorem M4 {I : Nat} {v : KV} {k : KV → Option R} (h : NS mem I v k = some r) : ∃ s, k s = some r ∧ Nz (aB mem) I v.down = some s.down := by
 unfold NS at h
 split at h
 ·rename_i b g i c
  obtain ⟨x, N, h⟩ := cQ h
  split at h
  ·rename_i e cs H
   split at h
   ·rename_i v K
    rw [aX] at K
    refine ⟨v, h, ?_⟩
    have M : x.down.row = .cells e (KV.downs cs) := by rw [show x.down.row = x.row.down from rfl, H]; rfl
    simp only [KV.down, Nz, N, ye, M]
    exact oT K
   ·cases h
  ·cases h
 ·rename_i J
  refine ⟨v, h, ?_⟩
  cases v with
  | ptr b g i c => exact (J _ _ _ _ rfl).elim
  | _ => rfl
theorem MI {env : Nat → KV} {tmps : List AV} (H : fB env tmps) {q : Operand × Nat × Operand × Nat} {k : aD → Option R} (h : Od (aP R) env mem q k = some r) : ∃ mem', k mem' = some r ∧ LC tmps (aB mem) q = some (aB mem') := by
 unfold Od at h
 obtain ⟨p, I, h, _⟩ := aO H h
 obtain ⟨s, h, hs⟩ := M4 h
 obtain ⟨v, K, h, _⟩ := aO H h
 split at h
 ·rename_i kd n
  simp only [real_guard] at h
  rw [bP] at h
  obtain ⟨mem', J, ht⟩ := JT h.2
  refine ⟨mem', J, ?_⟩
  simp only [LC, I, hs, K, ye, KV.down]
  rw [d9]
  exact ⟨h.1, ht⟩
 ·cases h
theorem FN {env : Nat → KV} {tmps : List AV} (I : fB env tmps) : ∀ {l : List (Operand × Nat × Operand × Nat)} {mem : aD} {k : aD → Option R}, HO (aP R) env l mem k = some r → ∃ mem', k mem' = some r ∧ BJ tmps l (aB mem) = some (aB mem')
 | [], mem, k, h => ⟨mem, h, rfl⟩
 | q :: l, mem, k, h => by
  simp only [HO] at h
  obtain ⟨J, h, K⟩ := MI I h
  obtain ⟨H, h, M⟩ := FN I h
  exact ⟨H, h, by simp only [BJ, K, ye, M]⟩
theorem Ma {an : lA} {rid : Nat} {old : List (Option Bool)} {st : w9} {k : w9 → Option R} {tmps : List AV} (he : fB st.env tmps) (h : LH (aP R) an rid old st k = some r) :
  ∃ M H, k M = some r ∧ Gj an rid old ⟨tmps, aB st.mem⟩ = some ⟨H, aB M.mem⟩ ∧ fB M.env H ∧ H.length = tmps.length := by
 unfold LH at h
 unfold Gj
 cases hq : eF rid an.tidy with
 | none => rw [hq] at h; exact ⟨st, tmps, h, rfl, he, rfl⟩
 | some q =>
  rw [hq] at h
  simp only at h ⊢
  rw [bP] at h
  obtain ⟨hs, h⟩ := h
  obtain ⟨vs, h, V, hl, hj⟩ := wF he h
  obtain ⟨mem1, h, I⟩ := zF h
  have K : AV.refsAll (bH q.1 tmps 0) = KV.refsAll vs := by
   rw [mY (suf := q.1) (fun a _ => kA) hs, V, bZ]
  rw [Cq (ws := bH q.1 tmps 0) (by rw [K, bZ])] at I
  have O : fB (dP q.1 vs) (bH q.1 tmps 0) := by
   intro t
   rcases Be (live := q.1) (vs := vs) (t := t) with U | ⟨j, v, U, h2, h3⟩
   ·exact .inl U
   ·right
    obtain ⟨hlt, w, hw, J, Z⟩ := hj j t U
    rw [h2] at hw
    obtain rfl := ya hw
    have N : eZ t q.1 = true := kA.2 (yt U)
    rw [h3]
    refine ⟨by rw [aX, BD, yc1, N, Z]; rfl, ?_⟩
    cases Y : eL v.down with
    | false => rfl
    | true => exact (J (nM.1 Y)).elim
  obtain ⟨mem2, h, W⟩ := FN O h
  refine ⟨_, bH q.1 tmps 0, h, ?_, O, qW _ _⟩
  rw [I, ye, W, yg]
end
end Go.Ab
