import Derived.Test.YtdlbbdbbpoggfaaGreatDoorLib19
set_option linter.unusedVariables false
set_option linter.unusedSectionVars false
set_option linter.unusedSimpArgs false
namespace Go.Ab
variable [cD]
section
variable {P : Program} {R R1 : Type} {r : R} {r1 : R1} {mem : aR} {tab : TypeId → Option TI} {C : bZ} {tbl : FuncId → List aG}
theorem BQ : ∀ (wr : List (Nat × fG)) (mem : aR), aF (sD mem wr) = aP (aF mem) (wr.map fun q => (q.1, q.2.down))
 | [], mem => rfl
 | (b, x) :: wr, mem => by
  simp only [sD, yh2, aP, eF]
  rw [BQ wr]
  congr 1
  simp [aF, List.map_set]
theorem Ju (o : bY) (mem : aR) : aF (o.apply mem) = o.down.apply (aF mem) := by
 unfold bY.apply eL.apply
 have : aF (sD mem o.wr ++ o.push) = aF (sD mem o.wr) ++ aF o.push := by simp [aF]
 rw [this, BQ]; rfl
theorem D3 (v : KV) : m6 v.down = GB v := by
 cases v <;> rfl
theorem zJ (x : fG) : gZ x.down = y8 x := by
 obtain ⟨g, f, row⟩ := x
 cases row with
 | ts β ag T xs =>
  unfold gZ y8 fG.down KRow.down
  simp only
  cases iB ag T xs <;> rfl
 | cells e cs =>
  show some (g, e, (KV.downs cs).map m6) = some (g, e, cs.map GB)
  rw [dC, List.map_map]
  congr 3
  exact List.map_congr_left fun v _ => D3 v
theorem q8 (mem : aR) (b : Nat) : bB (aF mem) b = mH mem b := by
 unfold bB mH
 rw [bU, gC]
 cases mem[b]? with
 | none => rfl
 | some x =>
  cases x with
  | none => rfl
  | some x => exact zJ x
theorem CW (mem : aR) (wr : List (Nat × fG)) : oF (aF mem) (wr.map fun q => (q.1, q.2.down)) = vX mem wr := by
 funext b
 unfold oF vX
 rw [List.all_map]
 congr 1
 funext q
 simp only [Function.comp, zJ, q8]
theorem LW (op : Op) (mem : aR) (v : KV) (rd : List Nat) : Mm op (aF mem) v.down rd = MU op mem v rd := by
 unfold Mm MU
 rw [D3]
 congr 1
 rcases rd with _ | ⟨b, _ | ⟨c, r⟩⟩
 ·rfl
 ·simp only [q8]
  cases mH mem b <;> rfl
 ·rfl
theorem OU (o : bY) (mk : Bool) (rs i : Nat) (op : Op) (mem : aR) : o.down.tr mk rs i op (aF mem) = o.tr mk rs i op mem := by
 unfold eL.tr bY.tr
 simp only [bY.down, List.map_map, LW, CW]
 congr 1
 cases o.push <;> rfl
theorem Kb (mem : aR) (rs : Nat) : vH (aF mem) rs = GW mem rs := by
 unfold vH GW
 rw [bU, gC]
 cases mem[rs]? with
 | none => rfl
 | some x => cases x <;> rfl
theorem F2 : ∀ mem : aR, trim (aF mem) = aF (FY mem)
 | [] => rfl
 | x :: m => by
  have h := F2 m
  show (match trim (aF m) with | [] => bif KG (x.map fG.down) then [] else [x.map fG.down] | y => x.map fG.down :: y) = _
  rw [h]
  simp only [FY]
  cases FY m with
  | nil => cases x <;> rfl
  | cons y ys => rfl
theorem gR.set {env : Nat → KV} {tmps : List AV} (h : gR env tmps) {d : Nat} (H : d < tmps.length) (v : KV) : gR (lV env d v) (B4 v.down tmps d) := by
 intro t
 unfold lV
 cases ht : Nat.beq t d with
 | true =>
  obtain rfl := nb.1 ht
  simp only [yg]
  cases A : fY v.down with
  | true => exact .inl (rH.1 A)
  | false => exact .inr ⟨by rw [bU, eF, yf1 H], rfl⟩
 | false =>
  simp only [ye]
  have z : t ≠ d := fun e => by rw [e, ys3] at ht; cases ht
  rcases h t with h1 | ⟨h1, h2⟩
  ·exact .inl h1
  ·refine .inr ⟨?_, h2⟩
   rw [bU, eF, yg1 (fun e => z e.symm), ← bU]; exact h1
theorem gR.put {env : Nat → KV} {tmps : List AV} (h : gR env tmps) {dst : Option Tmp} (z : ∀ d, dst = some d → d < tmps.length) (v : KV) : gR (v7 env dst v) (lD tmps dst v.down) := by
 cases dst with
 | none => exact h
 | some d => exact h.set (z d rfl) v
theorem m8 (tmps : List AV) (dst : Option Tmp) (v : AV) : (lD tmps dst v).length = tmps.length := by
 cases dst <;> simp [lD, eF]
theorem LZ {h : Option Int} {v : KV} {k : KV → Option R} {k1 : AV → Option R1} (A : ∀ w, k w = some r → k1 w.down = some r1) (z : KO (bI R) h v k = some r) : wP h v.down k1 = some r1 := by
 unfold KO at z
 split at z
 ·exact A _ z
 ·split at z
  ·simp only [real_guard] at z
   rw [c9] at z
   simp only [KV.down, wP, g8]
   exact ⟨z.1, A _ z.2⟩
  ·cases z
theorem CD (ht : cF P tab) (hC : F4 C tbl) {an : mQ} {rid : Nat} {W : List (Option Tmp)} : ∀ {ops : List Oper} {i rs : Nat} {st : Ah} {tr : List Tr} {k : Ah → List Tr → Option R} {k1 : St → List Tr → Option R1} {tmps : List AV},
  (∀ o ∈ ops, ∀ d, o.dst = some d → d < tmps.length) → gR st.env tmps → JY (bI R) tab tbl an rid W ops i rs st tr k = some r →
  (∀ J M A, k J M = some r → gR J.env A → A.length = tmps.length → k1 ⟨A, aF J.mem⟩ M = some r1) → qK P C an rid W ops i rs ⟨tmps, aF st.mem⟩ tr k1 = some r1
 | [], i, rs, st, tr, k, k1, tmps, Z, V, h, hk => hk _ _ _ h V rfl
 | o :: ops, i, rs, st, tr, k, k1, tmps, Z, V, h, hk => by
  have run : ∀ {env : Nat → KV} {z : List AV}, gR env z → z.length = tmps.length →
    (bif (bif eA o.op then GW st.mem rs else true) then Qk (bI R) tab tbl (cH rid i an.boxed) (cH rid i an.raw) (cH rid i an.vars) o env st.mem rs fun out =>
     KO (bI R) (A2 rid i an.hint) out.v fun v => JY (bI R) tab tbl an rid W ops (i + 1) (bif eA o.op then rs + 1 else rs) ⟨v7 env o.dst v, out.apply st.mem⟩ (out.tr (eA o.op) rs i o.op st.mem :: tr) k else none) = some r →
    guardB (bif eA o.op then vH (aF st.mem) rs else true) ((Iy P C (cH rid i an.boxed) (cH rid i an.raw) (cH rid i an.vars) o (fR z) (aF st.mem) rs).bind fun out =>
     wP (A2 rid i an.hint) out.v fun v => qK P C an rid W ops (i + 1) (bif eA o.op then rs + 1 else rs) { tmps := lD z o.dst v, mem := out.apply (aF st.mem) } (out.tr (eA o.op) rs i o.op (aF st.mem) :: tr) k1) = some r1 := by
   intro env z H hl h
   rw [c9] at h
   obtain ⟨hm, h⟩ := h
   obtain ⟨out, h, hop⟩ := O4 ht hC H h
   rw [g8]
   refine ⟨by rw [Kb]; exact hm, ?_⟩
   rw [hop]; simp only [ya]
   refine LZ (fun w hw => ?_) h
   rw [OU, ← Ju]
   exact CD ht hC (st := ⟨v7 env o.dst w, out.apply st.mem⟩) (tmps := lD z o.dst w.down) (fun o' U d K => by rw [m8, hl]; exact Z o' (yk _ U) d K)
    (H.put (fun d K => by rw [hl]; exact Z o (yn ..) d K) w) hw (fun J M A h1 h2 h3 => hk J M A h1 h2 (by rw [h3, m8, hl]))
  have skip : ∀ {env : Nat → KV} {z : List AV}, gR env z → z.length = tmps.length → JY (bI R) tab tbl an rid W ops (i + 1) (bif eA o.op then rs + 1 else rs) ⟨v7 env o.dst (.lit undef), st.mem⟩ tr k = some r →
    qK P C an rid W ops (i + 1) (bif eA o.op then rs + 1 else rs) { tmps := lD z o.dst (.lit undef), mem := aF st.mem } tr k1 = some r1 := by
   intro env z H hl h
   exact CD ht hC (st := ⟨v7 env o.dst (.lit undef), st.mem⟩) (tmps := lD z o.dst (.lit undef)) (fun o' U d K => by rw [m8, hl]; exact Z o' (yk _ U) d K)
    (H.put (fun d K => by rw [hl]; exact Z o (yn ..) d K) (.lit undef)) h (fun J M A h1 h2 h3 => hk J M A h1 h2 (by rw [h3, m8, hl]))
  simp only [JY] at h
  simp only [qK]
  cases hgd : o.guard with
  | none =>
   rw [hgd] at h
   exact run V rfl h
  | some q =>
   obtain ⟨j, O⟩ := q
   rw [hgd] at h
   simp only at h ⊢
   rw [bU] at h
   cases hds : W[j]? with
   | none => rw [hds] at h; cases h
   | some dd =>
    rw [hds] at h
    cases dd with
    | none => cases h
    | some d =>
     simp only at h ⊢
     have hed := V d
     cases hv : st.env d with
     | lit v =>
      rw [hv] at h hed
      rcases hed with Y | ⟨Y, _⟩
      ·cases Y
      ·have hlt : d < tmps.length := by rw [bU] at Y; exact (yh.1 Y).1
       rw [Y]
       cases v with
       | bool b =>
        simp only [KV.down, real_ite] at h ⊢
        cases b with
        | true =>
         simp only [yg] at h ⊢
         have H := V.set hlt (.lit (.bool true))
         have N : (B4 (KV.lit (.bool true)).down tmps d).length = tmps.length := by rw [eF]; simp
         cases O with
         | true => exact run H N h
         | false => exact skip H N h
        | false =>
         simp only [ye] at h ⊢
         have H := V.set hlt (.lit (.bool false))
         have N : (B4 (KV.lit (.bool false)).down tmps d).length = tmps.length := by rw [eF]; simp
         cases O with
         | true => exact skip H N h
         | false => exact run H N h
       | tuple vs => exact skip V rfl h
       | _ => cases h
     | _ => rw [hv] at h; cases h
theorem H1 (ht : cF P tab) (hC : F4 C tbl) {an : mQ} {rid : Nat} {ops : Array Oper} {H : Bool} {st : Ah} {k : Ah → Option R} {k1 : St → Option R1} {tmps : List AV} (J : ∀ o ∈ ops.toList, ∀ d, o.dst = some d → d < tmps.length) (N : gR st.env tmps)
  (h : Hl (bI R) tab tbl an rid ops H st k = some r) (K : ∀ A z, k A = some r → gR A.env z → z.length = tmps.length → k1 ⟨z, aF A.mem⟩ = some r1) : pJ P C an rid ops H ⟨tmps, aF st.mem⟩ k1 = some r1 := by
 unfold Hl at h
 unfold pJ
 simp only at h ⊢
 have hm : aF st.mem ++ List.replicate (nY ops.toList) none = aF (st.mem ++ List.replicate (nY ops.toList) none) := by simp [aF]
 rw [iY, hm]
 refine CD ht hC (st := ⟨st.env, st.mem ++ List.replicate (nY ops.toList) none⟩) J N h fun A O z h1 h2 M => ?_
 rw [c9] at h1
 rw [g8]
 refine ⟨h1.1, ?_⟩
 simp only
 rw [F2]
 exact K ⟨A.env, FY A.mem⟩ z h1.2 h2 M
def dM : Nat → List Nat → Bool
 | _, [] => true
 | n, a :: r => Nat.ble n a && dM (a + 1) r
theorem oD {b : Nat} : ∀ {l : List Nat}, gW b l = true ↔ b ∈ l
 | [] => by simp [gW]
 | a :: l => by
  simp only [gW, yc2, nb, oD (l := l), yq1]
  exact ⟨fun h => h.imp Eq.symm id, fun h => h.imp Eq.symm id⟩
theorem wG : ∀ {l : List Nat} {n a : Nat}, dM n l = true → a ∈ l → n ≤ a
 | b :: l, n, a, h, z => by
  simp only [dM, yc] at h
  have h1 := nl.1 h.1
  cases z with
  | head => exact h1
  | tail _ z => have := wG h.2 z; omega
def n6 (tmps : List AV) (i : Nat) : List Nat → List AV
 | [] => []
 | a :: l => (tmps[a - i]?).toList ++ n6 tmps i l
theorem oZ {live : List Nat} : ∀ {tmps : List AV} {i : Nat} {suf : List Nat}, (∀ a, i ≤ a → (gW a live = true ↔ a ∈ suf)) → dM i suf = true → AV.refsAll (cV live tmps i) = AV.refsAll (n6 tmps i suf)
 | [], i, suf, h, A => by
  have : n6 [] i suf = [] := by
   clear h A
   induction suf with
   | nil => rfl
   | cons a l J => simp [n6, J]
  rw [this]; rfl
 | v :: tmps, i, suf, h, A => by
  have z : ∀ {l : List Nat}, dM (i + 1) l = true → n6 (v :: tmps) i l = n6 tmps (i + 1) l := by
   intro l
   induction l with
   | nil => intro _; rfl
   | cons a l J =>
    intro hl
    have N := wG hl (yn ..)
    simp only [dM, yc] at hl
    simp only [n6]
    rw [J (incFrom_mono hl.2 (by omega))]
    rw [show a - i = (a - (i + 1)) + 1 by omega, yx1]
  cases suf with
  | nil =>
   have hn : gW i live = false := by
    cases hm : gW i live with
    | false => rfl
    | true => have := (h i (yz _)).1 hm; cases this
   simp only [cV, hn, ye, AV.refsAll]
   rw [oZ (suf := []) (fun a ha => h a (by omega)) rfl]
   rfl
  | cons a l =>
   have O := A
   simp only [dM, yc] at A
   have U := nl.1 A.1
   by_cases e : a = i
   ·subst e
    have hm : gW a live = true := (h a (yz _)).2 (yn ..)
    simp only [cV, hm, yg, AV.refsAll]
    rw [oZ (suf := l) (fun b M => ?_) A.2]
    ·simp only [n6, Nat.sub_self, yx2, Option.toList_some, List.singleton_append, AV.refsAll]
     rw [z A.2]
    ·rw [h b (by omega)]
     constructor
     ·intro K
      cases K with
      | head => omega
      | tail _ x => exact x
     ·exact fun x => yk _ x
   ·have hn : gW i live = false := by
     cases hm : gW i live with
     | false => rfl
     | true =>
      have h1 := (h i (yz _)).1 hm
      have h2 := wG (l := a :: l) (n := a) (by simp only [dM, yc]; exact ⟨nl.2 (yz _), A.2⟩) h1
      omega
    have H : dM (i + 1) (a :: l) = true := by simp only [dM, yc]; exact ⟨nl.2 (by omega), A.2⟩
    simp only [cV, hn, ye, AV.refsAll]
    rw [oZ (suf := a :: l) (fun b M => h b (by omega)) H, z H]
    rfl
 where
 incFrom_mono : ∀ {l : List Nat} {n m : Nat}, dM n l = true → m ≤ n → dM m l = true
  | [], _, _, _, _ => rfl
  | a :: l, n, m, h, hm => by
   simp only [dM, yc] at h ⊢
   exact ⟨nl.2 (yt2 hm (nl.1 h.1)), h.2⟩
theorem AJ {env : Nat → KV} {tmps : List AV} (K : gR env tmps) : ∀ {live : List Nat} {k : List KV → Option R}, yV env (live.map .tmp) k = some r →
  ∃ vs, k vs = some r ∧ n6 tmps 0 live = KV.downs vs ∧ vs.length = live.length ∧ (∀ (j t : Nat), live[j]? = some t → t < tmps.length ∧ ∃ v : KV, vs[j]? = some v ∧ v ≠ .gone ∧ tmps[t]? = some v.down)
 | [], k, h => ⟨[], h, rfl, rfl, by simp⟩
 | t :: live, k, h => by
  simp only [yh2, yV] at h
  obtain ⟨v, z, h, M⟩ := bC K h
  obtain ⟨vs, h, H, hl, N⟩ := AJ K h
  have ht : tmps[t]? = some v.down := by
   simp only [fR, BY] at z
   rw [bU, Lz] at z
   obtain ⟨w, O, z⟩ := z
   cases A : fY w with
   | true => rw [A] at z; cases z
   | false => rw [A] at z; rw [O]; exact z
  refine ⟨v :: vs, h, by simp [n6, ht, H, KV.downs], by simp [hl], fun j u J => ?_⟩
  cases j with
  | zero =>
   obtain rfl := yb J
   exact ⟨(yh.1 ht).1, v, rfl, M, ht⟩
  | succ j => exact N j u (by simpa using J)
theorem Fp : ∀ {live : List Nat} {vs : List KV} {t : Nat}, dP live vs t = .gone ∨ ∃ (j : Nat) (v : KV), live[j]? = some t ∧ vs[j]? = some v ∧ dP live vs t = v
 | [], vs, t => .inl (by cases vs <;> rfl)
 | a :: live, [], t => .inl rfl
 | a :: live, v :: vs, t => by
  simp only [dP]
  cases z : Nat.beq t a with
  | true => obtain rfl := nb.1 z; exact .inr ⟨0, v, rfl, rfl, rfl⟩
  | false =>
   simp only [ye]
   rcases Fp (live := live) (vs := vs) (t := t) with h | ⟨j, w, h1, h2, A⟩
   ·exact .inl h
   ·exact .inr ⟨j + 1, w, h1, h2, A⟩
theorem vD (f : lI) : ∀ vs : List AV, (AV.renAll f vs).length = vs.length
 | [] => rfl
 | v :: vs => by simp [AV.renAll, vD f vs]
theorem C6 (f : lI) : ∀ (vs : List AV) (j : Nat), (AV.renAll f vs)[j]? = (vs[j]?).map fun v => v.ren f
 | [], j => by simp [AV.renAll]
 | v :: vs, 0 => rfl
 | v :: vs, j + 1 => by simpa [AV.renAll] using C6 f vs j
theorem Bd (f : lI) : ∀ (vs : List KV) (j : Nat), (KV.renAll f vs)[j]? = (vs[j]?).map fun v => v.ren f
 | [], j => by simp [KV.renAll]
 | v :: vs, 0 => rfl
 | v :: vs, j + 1 => by simpa [KV.renAll] using Bd f vs j
theorem y6 {live : List Nat} : ∀ (tmps : List AV) (i : Nat), (cV live tmps i).length = tmps.length
 | [], _ => rfl
 | v :: tmps, i => by simp [cV, y6 tmps]
theorem FQ {live : List Nat} : ∀ (tmps : List AV) (i j : Nat), (cV live tmps i)[j]? = (tmps[j]?).map fun v => bif gW (i + j) live then v else .goneV
 | [], i, j => by simp [cV]
 | v :: tmps, i, 0 => by simp [cV]
 | v :: tmps, i, j + 1 => by
  simp only [cV, yx1, FQ tmps]
  rw [show i + 1 + j = i + (j + 1) by omega]
theorem FC {old : List (Option Bool)} {live : List Nat} {st : Ah} {k : Ah → Option R} {tmps : List AV} (he : gR st.env tmps) (hs : dM 0 live = true) (h : Fu old live st k = some r) :
  ∃ A z, k A = some r ∧ Hv old live ⟨tmps, aF st.mem⟩ = some ⟨z, aF A.mem⟩ ∧ gR A.env z ∧ z.length = tmps.length := by
 unfold Fu at h
 obtain ⟨vs, h, U, hl, Z⟩ := AJ he h
 unfold Aw at h
 simp only at h
 rw [c9] at h
 obtain ⟨Y, h⟩ := h
 have J : AV.refsAll (cV live tmps 0) = KV.refsAll vs := by
  rw [oZ (suf := live) (fun a _ => oD) hs, U, dL]
 refine ⟨_, AV.renAll (mI st.mem (jP st.mem (dV st.mem (old.length + (KV.refsAll vs).length)) (iJ 0 old.length ++ KV.refsAll vs) [])) (cV live tmps 0), h, ?_, ?_, by rw [vD, y6]⟩
 ·have hc : rQ old (cV live tmps 0) (aF st.mem) = some (AV.renAll (mI st.mem (jP st.mem (dV st.mem (old.length + (KV.refsAll vs).length)) (iJ 0 old.length ++ KV.refsAll vs) [])) (cV live tmps 0),
    aF (oJ (mI st.mem (jP st.mem (dV st.mem (old.length + (KV.refsAll vs).length)) (iJ 0 old.length ++ KV.refsAll vs) [])) st.mem (jP st.mem (dV st.mem (old.length + (KV.refsAll vs).length)) (iJ 0 old.length ++ KV.refsAll vs) []))) := by
   unfold rQ
   simp only [J, AK, pV, oY, wT, sM]
   rw [g8]
   exact ⟨Y, rfl⟩
  simp only [Hv, hc, yo]
 ·intro t
  rcases Fp (live := live) (vs := KV.renAll (mI st.mem (jP st.mem (dV st.mem (old.length + (KV.refsAll vs).length)) (iJ 0 old.length ++ KV.refsAll vs) [])) vs) (t := t) with h1 | ⟨j, v, h1, h2, h3⟩
  ·exact .inl h1
  ·right
   rw [Bd] at h2
   obtain ⟨W, O, rfl⟩ := yf.1 h2
   obtain ⟨hlt, w, V, H, N⟩ := Z j t h1
   rw [O] at V
   obtain rfl := yb V
   have K : gW t live = true := oD.2 (yj h1)
   simp only [h3]
   refine ⟨?_, ?_⟩
   ·rw [bU, C6, FQ, yj1, K, N]
    simp only [yg, yo, zE]
   ·cases M : fY (W.ren (mI st.mem (jP st.mem (dV st.mem (old.length + (KV.refsAll vs).length)) (iJ 0 old.length ++ KV.refsAll vs) []))).down with
    | false => rfl
    | true =>
     exfalso
     have := rH.1 M
     cases W <;> simp only [KV.ren] at this <;> first | exact H rfl | cases this | (split at this <;> cases this)
end
end Go.Ab
