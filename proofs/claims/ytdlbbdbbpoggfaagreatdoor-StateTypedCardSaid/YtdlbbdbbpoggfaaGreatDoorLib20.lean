import Derived.Test.YtdlbbdbbpoggfaaGreatDoorLib19
set_option linter.unusedVariables false
set_option linter.unusedSectionVars false
set_option linter.unusedSimpArgs false
namespace Go.Ab
variable [cD]
section
variable {P : Program} {R R1 : Type} {r : R} {r1 : R1} {mem : aR} {tab : TypeId → Option TI} {C : bZ} {tbl : FuncId → List aG}
theorem BS : ∀ (wr : List (Nat × fJ)) (mem : aR), aF (sL mem wr) = aQ (aF mem) (wr.map fun q => (q.1, q.2.down))
 | [], mem => rfl
 | (b, x) :: wr, mem => by
  simp only [sL, yi2, aQ, eF]
  rw [BS wr]
  congr 1
  simp [aF, List.map_set]
theorem JU (o : bY) (mem : aR) : aF (o.apply mem) = o.down.apply (aF mem) := by
 unfold bY.apply eM.apply
 have : aF (sL mem o.wr ++ o.push) = aF (sL mem o.wr) ++ aF o.push := by simp [aF]
 rw [this, BS]; rfl
theorem Dh (v : KV) : m8 v.down = GJ v := by
 cases v <;> rfl
theorem zN (x : fJ) : g8 x.down = yO x := by
 obtain ⟨g, f, row⟩ := x
 cases row with
 | ts β ag T xs =>
  unfold g8 yO fJ.down KRow.down
  simp only
  cases iH ag T xs <;> rfl
 | cells e cs =>
  show some (g, e, (KV.downs cs).map m8) = some (g, e, cs.map GJ)
  rw [dE, List.map_map]
  congr 3
  exact List.map_congr_left fun v _ => Dh v
theorem qT (mem : aR) (b : Nat) : bB (aF mem) b = mL mem b := by
 unfold bB mL
 rw [bU, gJ]
 cases mem[b]? with
 | none => rfl
 | some x =>
  cases x with
  | none => rfl
  | some x => exact zN x
theorem Dj (mem : aR) (wr : List (Nat × fJ)) : oO (aF mem) (wr.map fun q => (q.1, q.2.down)) = wT mem wr := by
 funext b
 unfold oO wT
 rw [List.all_map]
 congr 1
 funext q
 simp only [Function.comp, zN, qT]
theorem Mo (op : Op) (mem : aR) (v : KV) (rd : List Nat) : Mb op (aF mem) v.down rd = MU op mem v rd := by
 unfold Mb MU
 rw [Dh]
 congr 1
 rcases rd with _ | ⟨b, _ | ⟨c, r⟩⟩
 ·rfl
 ·simp only [qT]
  cases mL mem b <;> rfl
 ·rfl
theorem NY (o : bY) (mk : Bool) (rs i : Nat) (op : Op) (mem : aR) : o.down.tr mk rs i op (aF mem) = o.tr mk rs i op mem := by
 unfold eM.tr bY.tr
 simp only [bY.down, List.map_map, Mo, Dj]
 congr 1
 cases o.push <;> rfl
theorem JZ (mem : aR) (rs : Nat) : vV (aF mem) rs = Gt mem rs := by
 unfold vV Gt
 rw [bU, gJ]
 cases mem[rs]? with
 | none => rfl
 | some x => cases x <;> rfl
theorem FG : ∀ mem : aR, trim (aF mem) = aF (Fu mem)
 | [] => rfl
 | x :: m => by
  have h := FG m
  show (match trim (aF m) with | [] => bif KA (x.map fJ.down) then [] else [x.map fJ.down] | y => x.map fJ.down :: y) = _
  rw [h]
  simp only [Fu]
  cases Fu m with
  | nil => cases x <;> rfl
  | cons y ys => rfl
theorem gQ.set {env : Nat → KV} {tmps : List AV} (h : gQ env tmps) {d : Nat} (A : d < tmps.length) (v : KV) : gQ (mP env d v) (BW v.down tmps d) := by
 intro t
 unfold mP
 cases ht : Nat.beq t d with
 | true =>
  obtain rfl := nb.1 ht
  simp only [yg]
  cases H : fW v.down with
  | true => exact .inl (rA.1 H)
  | false => exact .inr ⟨by rw [bU, eF, yf1 A], rfl⟩
 | false =>
  simp only [ye]
  have z : t ≠ d := fun e => by rw [e, ys3] at ht; cases ht
  rcases h t with h1 | ⟨h1, h2⟩
  ·exact .inl h1
  ·refine .inr ⟨?_, h2⟩
   rw [bU, eF, yg1 (fun e => z e.symm), ← bU]; exact h1
theorem gQ.put {env : Nat → KV} {tmps : List AV} (h : gQ env tmps) {dst : Option Tmp} (z : ∀ d, dst = some d → d < tmps.length) (v : KV) : gQ (wG env dst v) (lA tmps dst v.down) := by
 cases dst with
 | none => exact h
 | some d => exact h.set (z d rfl) v
theorem nF (tmps : List AV) (dst : Option Tmp) (v : AV) : (lA tmps dst v).length = tmps.length := by
 cases dst <;> simp [lA, eF]
theorem Mf {h : Option Int} {v : KV} {k : KV → Option R} {k1 : AV → Option R1} (A : ∀ w, k w = some r → k1 w.down = some r1) (z : KP (bI R) h v k = some r) : wI h v.down k1 = some r1 := by
 unfold KP at z
 split at z
 ·exact A _ z
 ·split at z
  ·simp only [real_guard] at z
   rw [c9] at z
   simp only [KV.down, wI, h9]
   exact ⟨z.1, A _ z.2⟩
  ·cases z
theorem C3 (ht : cF P tab) (hC : Fx C tbl) {an : mR} {rid : Nat} {U : List (Option Tmp)} : ∀ {ops : List Oper} {i rs : Nat} {st : Ah} {tr : List Tr} {k : Ah → List Tr → Option R} {k1 : St → List Tr → Option R1} {tmps : List AV},
  (∀ o ∈ ops, ∀ d, o.dst = some d → d < tmps.length) → gQ st.env tmps → Ku (bI R) tab tbl an rid U ops i rs st tr k = some r →
  (∀ K M A, k K M = some r → gQ K.env A → A.length = tmps.length → k1 ⟨A, aF K.mem⟩ M = some r1) → qK P C an rid U ops i rs ⟨tmps, aF st.mem⟩ tr k1 = some r1
 | [], i, rs, st, tr, k, k1, tmps, Z, V, h, hk => hk _ _ _ h V rfl
 | o :: ops, i, rs, st, tr, k, k1, tmps, Z, V, h, hk => by
  have run : ∀ {env : Nat → KV} {z : List AV}, gQ env z → z.length = tmps.length →
    (bif (bif d9 o.op then Gt st.mem rs else true) then Qj (bI R) tab tbl (cG rid i an.boxed) (cG rid i an.raw) (cG rid i an.vars) o env st.mem rs fun out =>
     KP (bI R) (AR rid i an.hint) out.v fun v => Ku (bI R) tab tbl an rid U ops (i + 1) (bif d9 o.op then rs + 1 else rs) ⟨wG env o.dst v, out.apply st.mem⟩ (out.tr (d9 o.op) rs i o.op st.mem :: tr) k else none) = some r →
    guardB (bif d9 o.op then vV (aF st.mem) rs else true) ((I0 P C (cG rid i an.boxed) (cG rid i an.raw) (cG rid i an.vars) o (fP z) (aF st.mem) rs).bind fun out =>
     wI (AR rid i an.hint) out.v fun v => qK P C an rid U ops (i + 1) (bif d9 o.op then rs + 1 else rs) { tmps := lA z o.dst v, mem := out.apply (aF st.mem) } (out.tr (d9 o.op) rs i o.op (aF st.mem) :: tr) k1) = some r1 := by
   intro env z H hl h
   rw [c9] at h
   obtain ⟨hm, h⟩ := h
   obtain ⟨out, h, hop⟩ := OZ ht hC H h
   rw [h9]
   refine ⟨by rw [JZ]; exact hm, ?_⟩
   rw [hop]; simp only [ya]
   refine Mf (fun w hw => ?_) h
   rw [NY, ← JU]
   exact C3 ht hC (st := ⟨wG env o.dst w, out.apply st.mem⟩) (tmps := lA z o.dst w.down) (fun o' W d J => by rw [nF, hl]; exact Z o' (yk _ W) d J)
    (H.put (fun d J => by rw [hl]; exact Z o (yn ..) d J) w) hw (fun K M A h1 h2 h3 => hk K M A h1 h2 (by rw [h3, nF, hl]))
  have skip : ∀ {env : Nat → KV} {z : List AV}, gQ env z → z.length = tmps.length → Ku (bI R) tab tbl an rid U ops (i + 1) (bif d9 o.op then rs + 1 else rs) ⟨wG env o.dst (.lit undef), st.mem⟩ tr k = some r →
    qK P C an rid U ops (i + 1) (bif d9 o.op then rs + 1 else rs) { tmps := lA z o.dst (.lit undef), mem := aF st.mem } tr k1 = some r1 := by
   intro env z H hl h
   exact C3 ht hC (st := ⟨wG env o.dst (.lit undef), st.mem⟩) (tmps := lA z o.dst (.lit undef)) (fun o' W d J => by rw [nF, hl]; exact Z o' (yk _ W) d J)
    (H.put (fun d J => by rw [hl]; exact Z o (yn ..) d J) (.lit undef)) h (fun K M A h1 h2 h3 => hk K M A h1 h2 (by rw [h3, nF, hl]))
  simp only [Ku] at h
  simp only [qK]
  cases hgd : o.guard with
  | none =>
   rw [hgd] at h
   exact run V rfl h
  | some q =>
   obtain ⟨j, O⟩ := q
   rw [hgd] at h
   simp only at h ⊢
   rw [bU] at h
   cases hds : U[j]? with
   | none => rw [hds] at h; cases h
   | some dd =>
    rw [hds] at h
    cases dd with
    | none => cases h
    | some d =>
     simp only at h ⊢
     have hed := V d
     cases hv : st.env d with
     | lit v =>
      rw [hv] at h hed
      rcases hed with h0 | ⟨h0, _⟩
      ·cases h0
      ·have Y : d < tmps.length := by rw [bU] at h0; exact (yh.1 h0).1
       rw [h0]
       cases v with
       | bool b =>
        simp only [KV.down, real_ite] at h ⊢
        cases b with
        | true =>
         simp only [yg] at h ⊢
         have H := V.set Y (.lit (.bool true))
         have N : (BW (KV.lit (.bool true)).down tmps d).length = tmps.length := by rw [eF]; simp
         cases O with
         | true => exact run H N h
         | false => exact skip H N h
        | false =>
         simp only [ye] at h ⊢
         have H := V.set Y (.lit (.bool false))
         have N : (BW (KV.lit (.bool false)).down tmps d).length = tmps.length := by rw [eF]; simp
         cases O with
         | true => exact skip H N h
         | false => exact run H N h
       | tuple vs => exact skip V rfl h
       | _ => cases h
     | _ => rw [hv] at h; cases h
theorem IG (ht : cF P tab) (hC : Fx C tbl) {an : mR} {rid : Nat} {ops : Array Oper} {H : Bool} {st : Ah} {k : Ah → Option R} {k1 : St → Option R1} {tmps : List AV} (J : ∀ o ∈ ops.toList, ∀ d, o.dst = some d → d < tmps.length) (M : gQ st.env tmps)
  (h : Hd (bI R) tab tbl an rid ops H st k = some r) (K : ∀ A z, k A = some r → gQ A.env z → z.length = tmps.length → k1 ⟨z, aF A.mem⟩ = some r1) : pJ P C an rid ops H ⟨tmps, aF st.mem⟩ k1 = some r1 := by
 unfold Hd at h
 unfold pJ
 simp only at h ⊢
 have hm : aF st.mem ++ List.replicate (nK ops.toList) none = aF (st.mem ++ List.replicate (nK ops.toList) none) := by simp [aF]
 rw [jA, hm]
 refine C3 ht hC (st := ⟨st.env, st.mem ++ List.replicate (nK ops.toList) none⟩) J M h fun A O z h1 h2 N => ?_
 rw [c9] at h1
 rw [h9]
 refine ⟨h1.1, ?_⟩
 simp only
 rw [FG]
 exact K ⟨A.env, Fu A.mem⟩ z h1.2 h2 N
def dN : Nat → List Nat → Bool
 | _, [] => true
 | n, a :: r => Nat.ble n a && dN (a + 1) r
theorem oD {b : Nat} : ∀ {l : List Nat}, gT b l = true ↔ b ∈ l
 | [] => by simp [gT]
 | a :: l => by
  simp only [gT, yc2, nb, oD (l := l), yq1]
  exact ⟨fun h => h.imp Eq.symm id, fun h => h.imp Eq.symm id⟩
theorem wP : ∀ {l : List Nat} {n a : Nat}, dN n l = true → a ∈ l → n ≤ a
 | b :: l, n, a, h, z => by
  simp only [dN, yc] at h
  have h1 := nl.1 h.1
  cases z with
  | head => exact h1
  | tail _ z => have := wP h.2 z; omega
def nM (tmps : List AV) (i : Nat) : List Nat → List AV
 | [] => []
 | a :: l => (tmps[a - i]?).toList ++ nM tmps i l
theorem o7 {live : List Nat} : ∀ {tmps : List AV} {i : Nat} {suf : List Nat}, (∀ a, i ≤ a → (gT a live = true ↔ a ∈ suf)) → dN i suf = true → AV.refsAll (cV live tmps i) = AV.refsAll (nM tmps i suf)
 | [], i, suf, h, A => by
  have : nM [] i suf = [] := by
   clear h A
   induction suf with
   | nil => rfl
   | cons a l K => simp [nM, K]
  rw [this]; rfl
 | v :: tmps, i, suf, h, A => by
  have z : ∀ {l : List Nat}, dN (i + 1) l = true → nM (v :: tmps) i l = nM tmps (i + 1) l := by
   intro l
   induction l with
   | nil => intro _; rfl
   | cons a l K =>
    intro hl
    have M := wP hl (yn ..)
    simp only [dN, yc] at hl
    simp only [nM]
    rw [K (incFrom_mono hl.2 (by omega))]
    rw [show a - i = (a - (i + 1)) + 1 by omega, yx1]
  cases suf with
  | nil =>
   have hn : gT i live = false := by
    cases hm : gT i live with
    | false => rfl
    | true => have := (h i (yz _)).1 hm; cases this
   simp only [cV, hn, ye, AV.refsAll]
   rw [o7 (suf := []) (fun a ha => h a (by omega)) rfl]
   rfl
  | cons a l =>
   have U := A
   simp only [dN, yc] at A
   have O := nl.1 A.1
   by_cases e : a = i
   ·subst e
    have hm : gT a live = true := (h a (yz _)).2 (yn ..)
    simp only [cV, hm, yg, AV.refsAll]
    rw [o7 (suf := l) (fun b N => ?_) A.2]
    ·simp only [nM, Nat.sub_self, yy2, Option.toList_some, List.singleton_append, AV.refsAll]
     rw [z A.2]
    ·rw [h b (by omega)]
     constructor
     ·intro J
      cases J with
      | head => omega
      | tail _ x => exact x
     ·exact fun x => yk _ x
   ·have hn : gT i live = false := by
     cases hm : gT i live with
     | false => rfl
     | true =>
      have h1 := (h i (yz _)).1 hm
      have h2 := wP (l := a :: l) (n := a) (by simp only [dN, yc]; exact ⟨nl.2 (yz _), A.2⟩) h1
      omega
    have H : dN (i + 1) (a :: l) = true := by simp only [dN, yc]; exact ⟨nl.2 (by omega), A.2⟩
    simp only [cV, hn, ye, AV.refsAll]
    rw [o7 (suf := a :: l) (fun b N => h b (by omega)) H, z H]
    rfl
 where
 incFrom_mono : ∀ {l : List Nat} {n m : Nat}, dN n l = true → m ≤ n → dN m l = true
  | [], _, _, _, _ => rfl
  | a :: l, n, m, h, hm => by
   simp only [dN, yc] at h ⊢
   exact ⟨nl.2 (yt2 hm (nl.1 h.1)), h.2⟩
theorem AM {env : Nat → KV} {tmps : List AV} (K : gQ env tmps) : ∀ {live : List Nat} {k : List KV → Option R}, z5 env (live.map .tmp) k = some r →
  ∃ vs, k vs = some r ∧ nM tmps 0 live = KV.downs vs ∧ vs.length = live.length ∧ (∀ (j t : Nat), live[j]? = some t → t < tmps.length ∧ ∃ v : KV, vs[j]? = some v ∧ v ≠ .gone ∧ tmps[t]? = some v.down)
 | [], k, h => ⟨[], h, rfl, rfl, by simp⟩
 | t :: live, k, h => by
  simp only [yi2, z5] at h
  obtain ⟨v, z, h, O⟩ := bC K h
  obtain ⟨vs, h, H, hl, N⟩ := AM K h
  have ht : tmps[t]? = some v.down := by
   simp only [fP, B9] at z
   rw [bU, LM] at z
   obtain ⟨w, M, z⟩ := z
   cases A : fW w with
   | true => rw [A] at z; cases z
   | false => rw [A] at z; rw [M]; exact z
  refine ⟨v :: vs, h, by simp [nM, ht, H, KV.downs], by simp [hl], fun j u J => ?_⟩
  cases j with
  | zero =>
   obtain rfl := yb J
   exact ⟨(yh.1 ht).1, v, rfl, O, ht⟩
  | succ j => exact N j u (by simpa using J)
theorem FI : ∀ {live : List Nat} {vs : List KV} {t : Nat}, dP live vs t = .gone ∨ ∃ (j : Nat) (v : KV), live[j]? = some t ∧ vs[j]? = some v ∧ dP live vs t = v
 | [], vs, t => .inl (by cases vs <;> rfl)
 | a :: live, [], t => .inl rfl
 | a :: live, v :: vs, t => by
  simp only [dP]
  cases z : Nat.beq t a with
  | true => obtain rfl := nb.1 z; exact .inr ⟨0, v, rfl, rfl, rfl⟩
  | false =>
   simp only [ye]
   rcases FI (live := live) (vs := vs) (t := t) with h | ⟨j, w, h1, h2, A⟩
   ·exact .inl h
   ·exact .inr ⟨j + 1, w, h1, h2, A⟩
theorem vT (f : k9) : ∀ vs : List AV, (AV.renAll f vs).length = vs.length
 | [] => rfl
 | v :: vs => by simp [AV.renAll, vT f vs]
theorem CF (f : k9) : ∀ (vs : List AV) (j : Nat), (AV.renAll f vs)[j]? = (vs[j]?).map fun v => v.ren f
 | [], j => by simp [AV.renAll]
 | v :: vs, 0 => rfl
 | v :: vs, j + 1 => by simpa [AV.renAll] using CF f vs j
theorem Bl (f : k9) : ∀ (vs : List KV) (j : Nat), (KV.renAll f vs)[j]? = (vs[j]?).map fun v => v.ren f
 | [], j => by simp [KV.renAll]
 | v :: vs, 0 => rfl
 | v :: vs, j + 1 => by simpa [KV.renAll] using Bl f vs j
theorem zD {live : List Nat} : ∀ (tmps : List AV) (i : Nat), (cV live tmps i).length = tmps.length
 | [], _ => rfl
 | v :: tmps, i => by simp [cV, zD tmps]
theorem Gb {live : List Nat} : ∀ (tmps : List AV) (i j : Nat), (cV live tmps i)[j]? = (tmps[j]?).map fun v => bif gT (i + j) live then v else .goneV
 | [], i, j => by simp [cV]
 | v :: tmps, i, 0 => by simp [cV]
 | v :: tmps, i, j + 1 => by
  simp only [cV, yx1, Gb tmps]
  rw [show i + 1 + j = i + (j + 1) by omega]
theorem Gd {old : List (Option Bool)} {live : List Nat} {st : Ah} {k : Ah → Option R} {tmps : List AV} (he : gQ st.env tmps) (hs : dN 0 live = true) (h : Gi old live st k = some r) :
  ∃ J z, k J = some r ∧ HP old live ⟨tmps, aF st.mem⟩ = some ⟨z, aF J.mem⟩ ∧ gQ J.env z ∧ z.length = tmps.length := by
 unfold Gi at h
 obtain ⟨vs, h, U, hl, hj⟩ := AM he h
 unfold Az at h
 simp only at h
 rw [c9] at h
 obtain ⟨hg, h⟩ := h
 have A : AV.refsAll (cV live tmps 0) = KV.refsAll vs := by
  rw [o7 (suf := live) (fun a _ => oD) hs, U, dO]
 refine ⟨_, AV.renAll (mB st.mem (jN st.mem (dX st.mem (old.length + (KV.refsAll vs).length)) (iI 0 old.length ++ KV.refsAll vs) [])) (cV live tmps 0), h, ?_, ?_, by rw [vT, zD]⟩
 ·have Z : rQ old (cV live tmps 0) (aF st.mem) = some (AV.renAll (mB st.mem (jN st.mem (dX st.mem (old.length + (KV.refsAll vs).length)) (iI 0 old.length ++ KV.refsAll vs) [])) (cV live tmps 0),
    aF (oC (mB st.mem (jN st.mem (dX st.mem (old.length + (KV.refsAll vs).length)) (iI 0 old.length ++ KV.refsAll vs) [])) st.mem (jN st.mem (dX st.mem (old.length + (KV.refsAll vs).length)) (iI 0 old.length ++ KV.refsAll vs) []))) := by
   unfold rQ
   simp only [A, AA, o4, o5, vY, s2]
   rw [h9]
   exact ⟨hg, rfl⟩
  simp only [HP, Z, yo]
 ·intro t
  rcases FI (live := live) (vs := KV.renAll (mB st.mem (jN st.mem (dX st.mem (old.length + (KV.refsAll vs).length)) (iI 0 old.length ++ KV.refsAll vs) [])) vs) (t := t) with h1 | ⟨j, v, h1, h2, h3⟩
  ·exact .inl h1
  ·right
   rw [Bl] at h2
   obtain ⟨W, M, rfl⟩ := yf.1 h2
   obtain ⟨Y, w, V, H, O⟩ := hj j t h1
   rw [M] at V
   obtain rfl := yb V
   have K : gT t live = true := oD.2 (yj h1)
   simp only [h3]
   refine ⟨?_, ?_⟩
   ·rw [bU, CF, Gb, yj1, K, O]
    simp only [yg, yo, zJ]
   ·cases N : fW (W.ren (mB st.mem (jN st.mem (dX st.mem (old.length + (KV.refsAll vs).length)) (iI 0 old.length ++ KV.refsAll vs) []))).down with
    | false => rfl
    | true =>
     exfalso
     have := rA.1 N
     cases W <;> simp only [KV.ren] at this <;> first | exact H rfl | cases this | (split at this <;> cases this)
end
end Go.Ab
