import Derived.Test.YtmoldheenagboaaLib19
set_option linter.unusedVariables false
set_option linter.unusedSectionVars false
set_option linter.unusedSimpArgs false
namespace Go.Ab
variable [b8]
section
variable {P : Program} {R R1 : Type} {r : R} {r1 : R1} {mem : aO} {tab : TypeId → Option TI} {C : bZ} {tbl : FuncId → List aD}
theorem Aj : ∀ (wr : List (Nat × eI)) (mem : aO), aB (qR mem wr) = aN (aB mem) (wr.map fun q => (q.1, q.2.down))
 | [], mem => rfl
 | (b, x) :: wr, mem => by
  simp only [qR, yc2, aN, dM]
  rw [Aj wr]
  congr 1
  simp [aB, List.map_set]
theorem HH (o : bW) (mem : aO) : aB (o.apply mem) = o.down.apply (aB mem) := by
 unfold bW.apply dX.apply
 have : aB (qR mem o.wr ++ o.push) = aB (qR mem o.wr) ++ aB o.push := by simp [aB]
 rw [this, Aj]; rfl
theorem B4 (v : KV) : lR v.down = E4 v := by
 cases v <;> rfl
theorem v4 (x : eI) : gB x.down = vM x := by
 obtain ⟨g, f, row⟩ := x
 cases row with
 | ts β ag T xs =>
  unfold gB vM eI.down KRow.down
  simp only
  cases gF ag T xs <;> rfl
 | cells e cs =>
  show some (g, e, (KV.downs cs).map lR) = some (g, e, cs.map E4)
  rw [cO, List.map_map]
  congr 3
  exact List.map_congr_left fun v _ => B4 v
theorem pX (mem : aO) (b : Nat) : a0 (aB mem) b = k8 mem b := by
 unfold a0 k8
 rw [bO, fT]
 cases mem[b]? with
 | none => rfl
 | some x =>
  cases x with
  | none => rfl
  | some x => exact v4 x
theorem Cf (mem : aO) (wr : List (Nat × eI)) : m9 (aB mem) (wr.map fun q => (q.1, q.2.down)) = sX mem wr := by
 funext b
 unfold m9 sX
 rw [List.all_map]
 congr 1
 funext q
 simp only [Function.comp, v4, pX]
theorem JT (op : Op) (mem : aO) (v : KV) (rd : List Nat) : JI op (aB mem) v.down rd = Kj op mem v rd := by
 unfold JI Kj
 rw [B4]
 congr 1
 rcases rd with _ | ⟨b, _ | ⟨c, r⟩⟩
 ·rfl
 ·simp only [pX]
  cases k8 mem b <;> rfl
 ·rfl
theorem LP (o : bW) (mk : Bool) (rs i : Nat) (op : Op) (mem : aO) : o.down.tr mk rs i op (aB mem) = o.tr mk rs i op mem := by
 unfold dX.tr bW.tr
 simp only [bW.down, List.map_map, JT, Cf]
 congr 1
 cases o.push <;> rfl
theorem Hx (mem : aO) (rs : Nat) : rV (aB mem) rs = Et mem rs := by
 unfold rV Et
 rw [bO, fT]
 cases mem[rs]? with
 | none => rfl
 | some x => cases x <;> rfl
theorem D6 : ∀ mem : aO, trim (aB mem) = aB (Dk mem)
 | [] => rfl
 | x :: m => by
  have z := D6 m
  show (match trim (aB m) with | [] => bif IN (x.map eI.down) then [] else [x.map eI.down] | y => x.map eI.down :: y) = _
  rw [z]
  simp only [Dk]
  cases Dk m with
  | nil => cases x <;> rfl
  | cons y ys => rfl
theorem fW.set {env : Nat → KV} {tmps : List AV} (h : fW env tmps) {d : Nat} (O : d < tmps.length) (v : KV) : fW (kO env d v) (AD v.down tmps d) := by
 intro t
 unfold kO
 cases H : Nat.beq t d with
 | true =>
  obtain rfl := nb.1 H
  simp only [yg]
  cases N : dV v.down with
  | true => exact .inl (p3.1 N)
  | false => exact .inr ⟨by rw [bO, dM, ye1 O], rfl⟩
 | false =>
  simp only [yh]
  have J : t ≠ d := fun e => by rw [e, ym3] at H; cases H
  rcases h t with z | ⟨z, K⟩
  ·exact .inl z
  ·refine .inr ⟨?_, K⟩
   rw [bO, dM, yd1 (fun e => J e.symm), ← bO]; exact z
theorem fW.put {env : Nat → KV} {tmps : List AV} (h : fW env tmps) {dst : Option Tmp} (z : ∀ d, dst = some d → d < tmps.length) (v : KV) : fW (s3 env dst v) (j3 tmps dst v.down) := by
 cases dst with
 | none => exact h
 | some d => exact h.set (z d rfl) v
theorem l5 (tmps : List AV) (dst : Option Tmp) (v : AV) : (j3 tmps dst v).length = tmps.length := by
 cases dst <;> simp [j3, dM]
theorem I9 {h : Option Int} {v : KV} {k : KV → Option R} {k1 : AV → Option R1} (H : ∀ w, k w = some r → k1 w.down = some r1) (z : IU (aL R) h v k = some r) : s0 h v.down k1 = some r1 := by
 unfold IU at z
 split at z
 ·exact H _ z
 ·split at z
  ·simp only [real_guard] at z
   rw [cK] at z
   simp only [KV.down, s0, f8]
   exact ⟨z.1, H _ z.2⟩
  ·cases z
theorem Cu (ht : b9 P tab) (hC : Dh C tbl) {an : dJ} {rid : Nat} {Z : List (Option Tmp)} : ∀ {ops : List Oper} {i rs : Nat} {st : wZ} {tr : List Tr} {k : wZ → List Tr → Option R} {k1 : St → List Tr → Option R1} {tmps : List AV},
  (∀ o ∈ ops, ∀ d, o.dst = some d → d < tmps.length) → fW st.env tmps → Ii (aL R) tab tbl an rid Z ops i rs st tr k = some r →
  (∀ N O H, k N O = some r → fW N.env H → H.length = tmps.length → k1 ⟨H, aB N.mem⟩ O = some r1) → oX P C an rid Z ops i rs ⟨tmps, aB st.mem⟩ tr k1 = some r1
 | [], i, rs, st, tr, k, k1, tmps, hd, Y, h, hk => hk _ _ _ h Y rfl
 | o :: ops, i, rs, st, tr, k, k1, tmps, hd, Y, h, hk => by
  have run : ∀ {env : Nat → KV} {z : List AV}, fW env z → z.length = tmps.length →
    (bif (bif dE o.op then Et st.mem rs else true) then Nf (aL R) tab tbl (cB rid i an.boxed) (cB rid i an.raw) (cB rid i an.vars) o env st.mem rs fun out =>
     IU (aL R) (y7 rid i an.hint) out.v fun v => Ii (aL R) tab tbl an rid Z ops (i + 1) (bif dE o.op then rs + 1 else rs) ⟨s3 env o.dst v, out.apply st.mem⟩ (out.tr (dE o.op) rs i o.op st.mem :: tr) k else none) = some r →
    guardB (bif dE o.op then rV (aB st.mem) rs else true) ((F1 P C (cB rid i an.boxed) (cB rid i an.raw) (cB rid i an.vars) o (eQ z) (aB st.mem) rs).bind fun out =>
     s0 (y7 rid i an.hint) out.v fun v => oX P C an rid Z ops (i + 1) (bif dE o.op then rs + 1 else rs) { tmps := j3 z o.dst v, mem := out.apply (aB st.mem) } (out.tr (dE o.op) rs i o.op (aB st.mem) :: tr) k1) = some r1 := by
   intro env z J W h
   rw [cK] at h
   obtain ⟨hm, h⟩ := h
   obtain ⟨out, h, hop⟩ := LD ht hC J h
   rw [f8]
   refine ⟨by rw [Hx]; exact hm, ?_⟩
   rw [hop]; simp only [yb]
   refine I9 (fun w hw => ?_) h
   rw [LP, ← HH]
   exact Cu ht hC (st := ⟨s3 env o.dst w, out.apply st.mem⟩) (tmps := j3 z o.dst w.down) (fun o' ho' d K => by rw [l5, W]; exact hd o' (yi _ ho') d K)
    (J.put (fun d K => by rw [W]; exact hd o (ym ..) d K) w) hw (fun N O H h1 h2 h3 => hk N O H h1 h2 (by rw [h3, l5, W]))
  have skip : ∀ {env : Nat → KV} {z : List AV}, fW env z → z.length = tmps.length → Ii (aL R) tab tbl an rid Z ops (i + 1) (bif dE o.op then rs + 1 else rs) ⟨s3 env o.dst (.lit undef), st.mem⟩ tr k = some r →
    oX P C an rid Z ops (i + 1) (bif dE o.op then rs + 1 else rs) { tmps := j3 z o.dst (.lit undef), mem := aB st.mem } tr k1 = some r1 := by
   intro env z J W h
   exact Cu ht hC (st := ⟨s3 env o.dst (.lit undef), st.mem⟩) (tmps := j3 z o.dst (.lit undef)) (fun o' ho' d K => by rw [l5, W]; exact hd o' (yi _ ho') d K)
    (J.put (fun d K => by rw [W]; exact hd o (ym ..) d K) (.lit undef)) h (fun N O H h1 h2 h3 => hk N O H h1 h2 (by rw [h3, l5, W]))
  simp only [Ii] at h
  simp only [oX]
  cases hgd : o.guard with
  | none =>
   rw [hgd] at h
   exact run Y rfl h
  | some q =>
   obtain ⟨j, V⟩ := q
   rw [hgd] at h
   simp only at h ⊢
   rw [bO] at h
   cases hds : Z[j]? with
   | none => rw [hds] at h; cases h
   | some dd =>
    rw [hds] at h
    cases dd with
    | none => cases h
    | some d =>
     simp only at h ⊢
     have hed := Y d
     cases hv : st.env d with
     | lit v =>
      rw [hv] at h hed
      rcases hed with h0 | ⟨h0, _⟩
      ·cases h0
      ·have hlt : d < tmps.length := by rw [bO] at h0; exact (yf.1 h0).1
       rw [h0]
       cases v with
       | bool b =>
        simp only [KV.down, real_ite] at h ⊢
        cases b with
        | true =>
         simp only [yg] at h ⊢
         have J := Y.set hlt (.lit (.bool true))
         have U : (AD (KV.lit (.bool true)).down tmps d).length = tmps.length := by rw [dM]; simp
         cases V with
         | true => exact run J U h
         | false => exact skip J U h
        | false =>
         simp only [yh] at h ⊢
         have J := Y.set hlt (.lit (.bool false))
         have U : (AD (KV.lit (.bool false)).down tmps d).length = tmps.length := by rw [dM]; simp
         cases V with
         | true => exact skip J U h
         | false => exact run J U h
       | tuple vs => exact skip Y rfl h
       | _ => cases h
     | _ => rw [hv] at h; cases h
theorem FY (W : b9 P tab) (Y : Dh C tbl) {an : dJ} {rid : Nat} {ops : Array Oper} {J : Bool} {st : wZ} {k : wZ → Option R} {k1 : St → Option R1} {tmps : List AV} (V : ∀ o ∈ ops.toList, ∀ d, o.dst = some d → d < tmps.length) (N : fW st.env tmps)
  (h : E3 (aL R) tab tbl an rid ops J st k = some r) (O : ∀ H z, k H = some r → fW H.env z → z.length = tmps.length → k1 ⟨z, aB H.mem⟩ = some r1) : oC P C an rid ops J ⟨tmps, aB st.mem⟩ k1 = some r1 := by
 unfold E3 at h
 unfold oC
 simp only at h ⊢
 have hm : aB st.mem ++ List.replicate (mA ops.toList) none = aB (st.mem ++ List.replicate (mA ops.toList) none) := by simp [aB]
 rw [g8, hm]
 refine Cu W Y (st := ⟨st.env, st.mem ++ List.replicate (mA ops.toList) none⟩) V N h fun H U z K Z h3 => ?_
 rw [cK] at K
 rw [f8]
 refine ⟨K.1, ?_⟩
 simp only
 rw [D6]
 exact O ⟨H.env, Dk H.mem⟩ z K.2 Z h3
def dP : Nat → List Nat → Bool
 | _, [] => true
 | n, a :: r => Nat.ble n a && dP (a + 1) r
theorem m5 {b : Nat} : ∀ {l : List Nat}, f7 b l = true ↔ b ∈ l
 | [] => by simp [f7]
 | a :: l => by
  simp only [f7, yx1, nb, m5 (l := l), yf1]
  exact ⟨fun h => h.imp Eq.symm id, fun h => h.imp Eq.symm id⟩
theorem sE : ∀ {l : List Nat} {n a : Nat}, dP n l = true → a ∈ l → n ≤ a
 | b :: l, n, a, h, z => by
  simp only [dP, yc] at h
  have H := nl.1 h.1
  cases z with
  | head => exact H
  | tail _ z => have := sE h.2 z; omega
def l8 (tmps : List AV) (i : Nat) : List Nat → List AV
 | [] => []
 | a :: l => (tmps[a - i]?).toList ++ l8 tmps i l
theorem n5 {live : List Nat} : ∀ {tmps : List AV} {i : Nat} {suf : List Nat}, (∀ a, i ≤ a → (f7 a live = true ↔ a ∈ suf)) → dP i suf = true → AV.refsAll (cI live tmps i) = AV.refsAll (l8 tmps i suf)
 | [], i, suf, h, H => by
  have : l8 [] i suf = [] := by
   clear h H
   induction suf with
   | nil => rfl
   | cons a l U => simp [l8, U]
  rw [this]; rfl
 | v :: tmps, i, suf, h, H => by
  have z : ∀ {l : List Nat}, dP (i + 1) l = true → l8 (v :: tmps) i l = l8 tmps (i + 1) l := by
   intro l
   induction l with
   | nil => intro _; rfl
   | cons a l U =>
    intro O
    have W := sE O (ym ..)
    simp only [dP, yc] at O
    simp only [l8]
    rw [U (incFrom_mono O.2 (by omega))]
    rw [show a - i = (a - (i + 1)) + 1 by omega, ys1]
  cases suf with
  | nil =>
   have N : f7 i live = false := by
    cases K : f7 i live with
    | false => rfl
    | true => have := (h i (yu _)).1 K; cases this
   simp only [cI, N, yh, AV.refsAll]
   rw [n5 (suf := []) (fun a ha => h a (by omega)) rfl]
   rfl
  | cons a l =>
   have hs' := H
   simp only [dP, yc] at H
   have Y := nl.1 H.1
   by_cases e : a = i
   ·subst e
    have K : f7 a live = true := (h a (yu _)).2 (ym ..)
    simp only [cI, K, yg, AV.refsAll]
    rw [n5 (suf := l) (fun b hb => ?_) H.2]
    ·simp only [l8, Nat.sub_self, yn2, Option.toList_some, List.singleton_append, AV.refsAll]
     rw [z H.2]
    ·rw [h b (by omega)]
     constructor
     ·intro V
      cases V with
      | head => omega
      | tail _ x => exact x
     ·exact fun x => yi _ x
   ·have N : f7 i live = false := by
     cases K : f7 i live with
     | false => rfl
     | true =>
      have Z := (h i (yu _)).1 K
      have h2 := sE (l := a :: l) (n := a) (by simp only [dP, yc]; exact ⟨nl.2 (yu _), H.2⟩) Z
      omega
    have J : dP (i + 1) (a :: l) = true := by simp only [dP, yc]; exact ⟨nl.2 (by omega), H.2⟩
    simp only [cI, N, yh, AV.refsAll]
    rw [n5 (suf := a :: l) (fun b hb => h b (by omega)) J, z J]
    rfl
 where
 incFrom_mono : ∀ {l : List Nat} {n m : Nat}, dP n l = true → m ≤ n → dP m l = true
  | [], _, _, _, _ => rfl
  | a :: l, n, m, h, K => by
   simp only [dP, yc] at h ⊢
   exact ⟨nl.2 (yt1 K (nl.1 h.1)), h.2⟩
theorem yD {env : Nat → KV} {tmps : List AV} (N : fW env tmps) : ∀ {live : List Nat} {k : List KV → Option R}, wQ env (live.map .tmp) k = some r →
  ∃ vs, k vs = some r ∧ l8 tmps 0 live = KV.downs vs ∧ vs.length = live.length ∧ (∀ (j t : Nat), live[j]? = some t → t < tmps.length ∧ ∃ v : KV, vs[j]? = some v ∧ v ≠ .gone ∧ tmps[t]? = some v.down)
 | [], k, h => ⟨[], h, rfl, rfl, by simp⟩
 | t :: live, k, h => by
  simp only [yc2, wQ] at h
  obtain ⟨v, z, h, W⟩ := a5 N h
  obtain ⟨vs, h, K, U, V⟩ := yD N h
  have J : tmps[t]? = some v.down := by
   simp only [eQ, Au] at z
   rw [bO, Jc] at z
   obtain ⟨w, Y, z⟩ := z
   cases H : dV w with
   | true => rw [H] at z; cases z
   | false => rw [H] at z; rw [Y]; exact z
  refine ⟨v :: vs, h, by simp [l8, J, K, KV.downs], by simp [U], fun j u O => ?_⟩
  cases j with
  | zero =>
   obtain rfl := ya O
   exact ⟨(yf.1 J).1, v, rfl, W, J⟩
  | succ j => exact V j u (by simpa using O)
theorem Dy : ∀ {live : List Nat} {vs : List KV} {t : Nat}, cX live vs t = .gone ∨ ∃ (j : Nat) (v : KV), live[j]? = some t ∧ vs[j]? = some v ∧ cX live vs t = v
 | [], vs, t => .inl (by cases vs <;> rfl)
 | a :: live, [], t => .inl rfl
 | a :: live, v :: vs, t => by
  simp only [cX]
  cases z : Nat.beq t a with
  | true => obtain rfl := nb.1 z; exact .inr ⟨0, v, rfl, rfl, rfl⟩
  | false =>
   simp only [yh]
   rcases Dy (live := live) (vs := vs) (t := t) with h | ⟨j, w, H, J, K⟩
   ·exact .inl h
   ·exact .inr ⟨j + 1, w, H, J, K⟩
theorem rM (f : j8) : ∀ vs : List AV, (AV.renAll f vs).length = vs.length
 | [] => rfl
 | v :: vs => by simp [AV.renAll, rM f vs]
theorem Bl (f : j8) : ∀ (vs : List AV) (j : Nat), (AV.renAll f vs)[j]? = (vs[j]?).map fun v => v.ren f
 | [], j => by simp [AV.renAll]
 | v :: vs, 0 => rfl
 | v :: vs, j + 1 => by simpa [AV.renAll] using Bl f vs j
theorem zQ (f : j8) : ∀ (vs : List KV) (j : Nat), (KV.renAll f vs)[j]? = (vs[j]?).map fun v => v.ren f
 | [], j => by simp [KV.renAll]
 | v :: vs, 0 => rfl
 | v :: vs, j + 1 => by simpa [KV.renAll] using zQ f vs j
theorem vZ {live : List Nat} : ∀ (tmps : List AV) (i : Nat), (cI live tmps i).length = tmps.length
 | [], _ => rfl
 | v :: tmps, i => by simp [cI, vZ tmps]
theorem Ek {live : List Nat} : ∀ (tmps : List AV) (i j : Nat), (cI live tmps i)[j]? = (tmps[j]?).map fun v => bif f7 (i + j) live then v else .goneV
 | [], i, j => by simp [cI]
 | v :: tmps, i, 0 => by simp [cI]
 | v :: tmps, i, j + 1 => by
  simp only [cI, ys1, Ek tmps]
  rw [show i + 1 + j = i + (j + 1) by omega]
theorem Dq {old : List (Option Bool)} {live : List Nat} {st : wZ} {k : wZ → Option R} {tmps : List AV} (he : fW st.env tmps) (hs : dP 0 live = true) (h : Ej old live st k = some r) :
  ∃ J z, k J = some r ∧ FW old live ⟨tmps, aB st.mem⟩ = some ⟨z, aB J.mem⟩ ∧ fW J.env z ∧ z.length = tmps.length := by
 unfold Ej at h
 obtain ⟨vs, h, V, hl, hj⟩ := yD he h
 unfold yK at h
 simp only at h
 rw [cK] at h
 obtain ⟨hg, h⟩ := h
 have H : AV.refsAll (cI live tmps 0) = KV.refsAll vs := by
  rw [n5 (suf := live) (fun a _ => m5) hs, V, cV]
 refine ⟨_, AV.renAll (kI st.mem (iZ st.mem (c6 st.mem (old.length + (KV.refsAll vs).length)) (gH 0 old.length ++ KV.refsAll vs) [])) (cI live tmps 0), h, ?_, ?_, by rw [rM, vZ]⟩
 ·have hc : oU old (cI live tmps 0) (aB st.mem) = some (AV.renAll (kI st.mem (iZ st.mem (c6 st.mem (old.length + (KV.refsAll vs).length)) (gH 0 old.length ++ KV.refsAll vs) [])) (cI live tmps 0),
    aB (mN (kI st.mem (iZ st.mem (c6 st.mem (old.length + (KV.refsAll vs).length)) (gH 0 old.length ++ KV.refsAll vs) [])) st.mem (iZ st.mem (c6 st.mem (old.length + (KV.refsAll vs).length)) (gH 0 old.length ++ KV.refsAll vs) []))) := by
   unfold oU
   simp only [H, y0, nH, nN, sD, qN]
   rw [f8]
   exact ⟨hg, rfl⟩
  simp only [FW, hc, yn]
 ·intro t
  rcases Dy (live := live) (vs := KV.renAll (kI st.mem (iZ st.mem (c6 st.mem (old.length + (KV.refsAll vs).length)) (gH 0 old.length ++ KV.refsAll vs) [])) vs) (t := t) with O | ⟨j, v, O, h2, h3⟩
  ·exact .inl O
  ·right
   rw [zQ] at h2
   obtain ⟨v0, Y, rfl⟩ := yd.1 h2
   obtain ⟨hlt, w, Z, K, W⟩ := hj j t O
   rw [Y] at Z
   obtain rfl := ya Z
   have N : f7 t live = true := m5.2 (yt O)
   simp only [h3]
   refine ⟨?_, ?_⟩
   ·rw [bO, Bl, Ek, yh1, N, W]
    simp only [yg, yn, u9]
   ·cases U : dV (v0.ren (kI st.mem (iZ st.mem (c6 st.mem (old.length + (KV.refsAll vs).length)) (gH 0 old.length ++ KV.refsAll vs) []))).down with
    | false => rfl
    | true =>
     exfalso
     have := p3.1 U
     cases v0 <;> simp only [KV.ren] at this <;> first | exact K rfl | cases this | (split at this <;> cases this)
end
end Go.Ab
