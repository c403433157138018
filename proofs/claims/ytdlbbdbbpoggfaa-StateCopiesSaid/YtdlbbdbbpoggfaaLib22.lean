import Derived.Test.YtdlbbdbbpoggfaaLib21
set_option linter.unusedVariables false
set_option linter.unusedSectionVars false
set_option linter.unusedSimpArgs false
namespace Go.Ab
variable [GTab]
section
variable {P : Program} {R R1 : Type} {r : R} {r1 : R1} {mem : KMem} {tab : TypeId → Option TI} {C : Oracle} {tbl : FuncId → List Entry}
theorem zhc : ∀ (wr : List (Nat × KBox)) (mem : KMem), kdown (setMemK mem wr) = setMem (kdown mem) (wr.map fun q => (q.1, q.2.down))
 | [], mem => rfl
 | (b, x) :: wr, mem => by
  simp only [setMemK, yu1, setMem, zP]
  rw [zhc wr]
  congr 1
  simp [kdown, List.map_set]
theorem zna (o : KOut) (mem : KMem) : kdown (o.apply mem) = o.down.apply (kdown mem) := by
 unfold KOut.apply Out.apply
 have : kdown (setMemK mem o.wr ++ o.push) = kdown (setMemK mem o.wr) ++ kdown o.push := by simp [kdown]
 rw [this, zhc]; rfl
theorem zih (v : KV) : ptrOf v.down = ptrOfK v := by
 cases v <;> rfl
theorem zfC (x : KBox) : ptrCode x.down = ptrCodeK x := by
 obtain ⟨g, f, row⟩ := x
 cases row with
 | os => rfl
 | ts β ag T xs =>
  unfold ptrCode ptrCodeK KBox.down KRow.down
  simp only
  cases pvSl ag T xs <;> rfl
 | cells e cs =>
  show some (g, e, (KV.downs cs).map ptrOf) = some (g, e, cs.map ptrOfK)
  rw [zy, List.map_map]
  congr 3
  exact List.map_congr_left fun v _ => zih v
theorem zdY (mem : KMem) (b : Nat) : ptrCodeAt (kdown mem) b = ptrCodeAtK mem b := by
 unfold ptrCodeAt ptrCodeAtK
 rw [zf, zX]
 cases mem[b]? with
 | none => rfl
 | some x =>
  cases x with
  | none => rfl
  | some x => exact zfC x
theorem ziA (mem : KMem) (wr : List (Nat × KBox)) : keepsPtrs (kdown mem) (wr.map fun q => (q.1, q.2.down)) = keepsPtrsK mem wr := by
 funext b
 unfold keepsPtrs keepsPtrsK
 rw [List.all_map]
 congr 1
 funext q
 simp only [Function.comp, zfC, zdY]
theorem zpd (op : Op) (mem : KMem) (v : KV) (rd : List Nat) : rcOf op (kdown mem) v.down rd = rcOfK op mem v rd := by
 unfold rcOf rcOfK
 rw [zih]
 congr 1
 rcases rd with _ | ⟨b, _ | ⟨c, r⟩⟩
 ·rfl
 ·simp only [zdY]
  cases ptrCodeAtK mem b <;> rfl
 ·rfl
theorem zpV (o : KOut) (mk : Bool) (rs i : Nat) (op : Op) (mem : KMem) : o.down.tr mk rs i op (kdown mem) = o.tr mk rs i op mem := by
 unfold Out.tr KOut.tr
 simp only [KOut.down, List.map_map, zpd, ziA]
 congr 1
 cases o.push <;> rfl
theorem zns (mem : KMem) (rs : Nat) : isRes (kdown mem) rs = isResK mem rs := by
 unfold isRes isResK
 rw [zf, zX]
 cases mem[rs]? with
 | none => rfl
 | some x => cases x <;> rfl
theorem zjq : ∀ mem : KMem, trim (kdown mem) = kdown (trimK mem)
 | [] => rfl
 | x :: m => by
  have ih := zjq m
  show (match trim (kdown m) with | [] => bif isNew (x.map KBox.down) then [] else [x.map KBox.down] | y => x.map KBox.down :: y) = _
  rw [ih]
  simp only [trimK]
  cases trimK m with
  | nil => cases x <;> rfl
  | cons y ys => rfl
theorem EnvR.set {env : Nat → KV} {tmps : List AV} (h : EnvR env tmps) {d : Nat} (hd : d < tmps.length) (v : KV) : EnvR (envSet env d v) (setR v.down tmps d) := by
 intro t
 unfold envSet
 cases ht : Nat.beq t d with
 | true =>
  obtain rfl := nb.1 ht
  simp only [yg]
  cases hg : isGone v.down with
  | true => exact .inl (zbV.1 hg)
  | false => exact .inr ⟨by rw [zf, zP, yw hd], rfl⟩
 | false =>
  simp only [yh]
  have hne : t ≠ d := fun e => by rw [e, yq2] at ht; cases ht
  rcases h t with h1 | ⟨h1, h2⟩
  ·exact .inl h1
  ·refine .inr ⟨?_, h2⟩
   rw [zf, zP, yq (fun e => hne e.symm), ← zf]; exact h1
theorem EnvR.put {env : Nat → KV} {tmps : List AV} (h : EnvR env tmps) {dst : Option Tmp} (hd : ∀ d, dst = some d → d < tmps.length) (v : KV) : EnvR (envPut env dst v) (putA tmps dst v.down) := by
 cases dst with
 | none => exact h
 | some d => exact h.set (hd d rfl) v
theorem zbU (tmps : List AV) (dst : Option Tmp) (v : AV) : (putA tmps dst v).length = tmps.length := by
 cases dst <;> simp [putA, zP]
theorem zoJ {h : Option Int} {v : KV} {k : KV → Option R} {k1 : AV → Option R1} (hk : ∀ w, k w = some r → k1 w.down = some r1) (hh : hintK (real R) h v k = some r) : hintOk h v.down k1 = some r1 := by
 unfold hintK at hh
 split at hh
 ·exact hk _ hh
 ·split at hh
  ·simp only [real_guard] at hh
   rw [cds] at hh
   simp only [KV.down, hintOk, gds]
   exact ⟨hh.1, hk _ hh.2⟩
  ·cases hh
theorem ziL (ht : TabOK P tab) (hC : AskOK C tbl) {an : Ann} {tk : Bool} {rid : Nat} {ds : List (Option Tmp)} : ∀ {ops : List Oper} {i rs : Nat} {st : KSt} {tr : List Tr} {k : KSt → List Tr → Option R} {k1 : St → List Tr → Option R1} {tmps : List AV},
  (∀ o ∈ ops, ∀ d, o.dst = some d → d < tmps.length) → EnvR st.env tmps → opsK (real R) tab tbl an tk rid ds ops i rs st tr k = some r →
  (∀ st' tr' tmps', k st' tr' = some r → EnvR st'.env tmps' → tmps'.length = tmps.length → k1 ⟨tmps', kdown st'.mem⟩ tr' = some r1) → opsA P C an tk rid ds ops i rs ⟨tmps, kdown st.mem⟩ tr k1 = some r1
 | [], i, rs, st, tr, k, k1, tmps, hd, he, h, hk => hk _ _ _ h he rfl
 | o :: ops, i, rs, st, tr, k, k1, tmps, hd, he, h, hk => by
  have run : ∀ {env : Nat → KV} {tmps1 : List AV}, EnvR env tmps1 → tmps1.length = tmps.length →
    (bif (bif makes o.op then isResK st.mem rs else true) then opXK (real R) tab tbl (hasPair rid i an.own) tk (hasPair rid i an.boxed) (hasPair rid i an.raw) (hasPair rid i an.vars) o env st.mem rs fun out =>
     hintK (real R) (hintAt rid i an.hint) out.v fun v => opsK (real R) tab tbl an tk rid ds ops (i + 1) (bif makes o.op then rs + 1 else rs) ⟨envPut env o.dst v, out.apply st.mem⟩ (out.tr (makes o.op) rs i o.op st.mem :: tr) k else none) = some r →
    guardB (bif makes o.op then isRes (kdown st.mem) rs else true) ((opX P C (hasPair rid i an.own) tk (hasPair rid i an.boxed) (hasPair rid i an.raw) (hasPair rid i an.vars) o (evalA tmps1) (kdown st.mem) rs).bind fun out =>
     hintOk (hintAt rid i an.hint) out.v fun v => opsA P C an tk rid ds ops (i + 1) (bif makes o.op then rs + 1 else rs) { tmps := putA tmps1 o.dst v, mem := out.apply (kdown st.mem) } (out.tr (makes o.op) rs i o.op (kdown st.mem) :: tr) k1) = some r1 := by
   intro env tmps1 he1 hl h
   rw [cds] at h
   obtain ⟨hm, h⟩ := h
   obtain ⟨out, h, hop⟩ := zpC ht hC he1 h
   rw [gds]
   refine ⟨by rw [zns]; exact hm, ?_⟩
   rw [hop]; simp only [yc]
   refine zoJ (fun w hw => ?_) h
   rw [zpV, ← zna]
   exact ziL ht hC (st := ⟨envPut env o.dst w, out.apply st.mem⟩) (tmps := putA tmps1 o.dst w.down) (fun o' ho' d hd' => by rw [zbU, hl]; exact hd o' (yi _ ho') d hd')
    (he1.put (fun d hd' => by rw [hl]; exact hd o (yn ..) d hd') w) hw (fun st' tr' tmps' h1 h2 h3 => hk st' tr' tmps' h1 h2 (by rw [h3, zbU, hl]))
  have skip : ∀ {env : Nat → KV} {tmps1 : List AV}, EnvR env tmps1 → tmps1.length = tmps.length → opsK (real R) tab tbl an tk rid ds ops (i + 1) (bif makes o.op then rs + 1 else rs) ⟨envPut env o.dst (.lit undef), st.mem⟩ tr k = some r →
    opsA P C an tk rid ds ops (i + 1) (bif makes o.op then rs + 1 else rs) { tmps := putA tmps1 o.dst (.lit undef), mem := kdown st.mem } tr k1 = some r1 := by
   intro env tmps1 he1 hl h
   exact ziL ht hC (st := ⟨envPut env o.dst (.lit undef), st.mem⟩) (tmps := putA tmps1 o.dst (.lit undef)) (fun o' ho' d hd' => by rw [zbU, hl]; exact hd o' (yi _ ho') d hd')
    (he1.put (fun d hd' => by rw [hl]; exact hd o (yn ..) d hd') (.lit undef)) h (fun st' tr' tmps' h1 h2 h3 => hk st' tr' tmps' h1 h2 (by rw [h3, zbU, hl]))
  simp only [opsK] at h
  simp only [opsA]
  cases hgd : o.guard with
  | none =>
   rw [hgd] at h
   exact run he rfl h
  | some q =>
   obtain ⟨j, want⟩ := q
   rw [hgd] at h
   simp only at h ⊢
   rw [zf] at h
   cases hds : ds[j]? with
   | none => rw [hds] at h; cases h
   | some dd =>
    rw [hds] at h
    cases dd with
    | none => cases h
    | some d =>
     simp only at h ⊢
     have hed := he d
     cases hv : st.env d with
     | lit v =>
      rw [hv] at h hed
      rcases hed with h0 | ⟨h0, _⟩
      ·cases h0
      ·have hlt : d < tmps.length := by rw [zf] at h0; exact (ye.1 h0).1
       rw [h0]
       cases v with
       | bool b =>
        simp only [KV.down, real_ite] at h ⊢
        cases b with
        | true =>
         simp only [yg] at h ⊢
         have he1 := he.set hlt (.lit (.bool true))
         have hl1 : (setR (KV.lit (.bool true)).down tmps d).length = tmps.length := by rw [zP]; simp
         cases want with
         | true => exact run he1 hl1 h
         | false => exact skip he1 hl1 h
        | false =>
         simp only [yh] at h ⊢
         have he1 := he.set hlt (.lit (.bool false))
         have hl1 : (setR (KV.lit (.bool false)).down tmps d).length = tmps.length := by rw [zP]; simp
         cases want with
         | true => exact skip he1 hl1 h
         | false => exact run he1 hl1 h
       | tuple vs => exact skip he rfl h
       | _ => cases h
     | _ => rw [hv] at h; cases h
theorem zmz (ht : TabOK P tab) (hC : AskOK C tbl) {an : Ann} {rid : Nat} {ops : Array Oper} {draw : Bool} {st : KSt} {k : KSt → Option R} {k1 : St → Option R1} {tmps : List AV} (hd : ∀ o ∈ ops.toList, ∀ d, o.dst = some d → d < tmps.length) (he : EnvR st.env tmps)
  (h : regionK (real R) tab tbl an rid ops draw st k = some r) (hk : ∀ st' tmps', k st' = some r → EnvR st'.env tmps' → tmps'.length = tmps.length → k1 ⟨tmps', kdown st'.mem⟩ = some r1) : regionA P C an rid ops draw ⟨tmps, kdown st.mem⟩ k1 = some r1 := by
 unfold regionK at h
 unfold regionA
 simp only at h ⊢
 have hm : kdown st.mem ++ List.replicate (makesN ops.toList) none = kdown (st.mem ++ List.replicate (makesN ops.toList) none) := by simp [kdown]
 rw [zQ, hm]
 refine ziL ht hC (st := ⟨st.env, st.mem ++ List.replicate (makesN ops.toList) none⟩) hd he h fun st' tr' tmps' h1 h2 h3 => ?_
 rw [cds] at h1
 rw [gds]
 refine ⟨h1.1, ?_⟩
 simp only
 rw [zjq]
 exact hk ⟨st'.env, trimK st'.mem⟩ tmps' h1.2 h2 h3
theorem zba {b : Nat} : ∀ {l : List Nat}, memN b l = true ↔ b ∈ l
 | [] => by simp [memN]
 | a :: l => by
  simp only [memN, yw1, nb, zba (l := l), yn1]
  exact ⟨fun h => h.imp Eq.symm id, fun h => h.imp Eq.symm id⟩
theorem zeY : ∀ {l : List Nat} {n a : Nat}, incFrom n l = true → a ∈ l → n ≤ a
 | b :: l, n, a, h, ha => by
  simp only [incFrom, yb] at h
  have h1 := nl.1 h.1
  cases ha with
  | head => exact h1
  | tail _ ha => have := zeY h.2 ha; omega
def valsAt (tmps : List AV) (i : Nat) : List Nat → List AV
 | [] => []
 | a :: l => (tmps[a - i]?).toList ++ valsAt tmps i l
theorem zbL {live : List Nat} : ∀ {tmps : List AV} {i : Nat} {suf : List Nat}, (∀ a, i ≤ a → (memN a live = true ↔ a ∈ suf)) → incFrom i suf = true → AV.refsAll (clearTo live tmps i) = AV.refsAll (valsAt tmps i suf)
 | [], i, suf, h, hs => by
  have : valsAt [] i suf = [] := by
   clear h hs
   induction suf with
   | nil => rfl
   | cons a l ih => simp [valsAt, ih]
  rw [this]; rfl
 | v :: tmps, i, suf, h, hs => by
  have shift : ∀ {l : List Nat}, incFrom (i + 1) l = true → valsAt (v :: tmps) i l = valsAt tmps (i + 1) l := by
   intro l
   induction l with
   | nil => intro _; rfl
   | cons a l ih =>
    intro hl
    have hle := zeY hl (yn ..)
    simp only [incFrom, yb] at hl
    simp only [valsAt]
    rw [ih (incFrom_mono hl.2 (by omega))]
    rw [show a - i = (a - (i + 1)) + 1 by omega, ye1]
  cases suf with
  | nil =>
   have hn : memN i live = false := by
    cases hm : memN i live with
    | false => rfl
    | true => have := (h i (yx _)).1 hm; cases this
   simp only [clearTo, hn, yh, AV.refsAll]
   rw [zbL (suf := []) (fun a ha => h a (by omega)) rfl]
   rfl
  | cons a l =>
   have hs' := hs
   simp only [incFrom, yb] at hs
   have hia := nl.1 hs.1
   by_cases e : a = i
   ·subst e
    have hm : memN a live = true := (h a (yx _)).2 (yn ..)
    simp only [clearTo, hm, yg, AV.refsAll]
    rw [zbL (suf := l) (fun b hb => ?_) hs.2]
    ·simp only [valsAt, Nat.sub_self, yp2, Option.toList_some, List.singleton_append, AV.refsAll]
     rw [shift hs.2]
    ·rw [h b (by omega)]
     constructor
     ·intro hb2
      cases hb2 with
      | head => omega
      | tail _ x => exact x
     ·exact fun x => yi _ x
   ·have hn : memN i live = false := by
     cases hm : memN i live with
     | false => rfl
     | true =>
      have h1 := (h i (yx _)).1 hm
      have h2 := zeY (l := a :: l) (n := a) (by simp only [incFrom, yb]; exact ⟨nl.2 (yx _), hs.2⟩) h1
      omega
    have hinc : incFrom (i + 1) (a :: l) = true := by simp only [incFrom, yb]; exact ⟨nl.2 (by omega), hs.2⟩
    simp only [clearTo, hn, yh, AV.refsAll]
    rw [zbL (suf := a :: l) (fun b hb => h b (by omega)) hinc, shift hinc]
    rfl
 where
 incFrom_mono : ∀ {l : List Nat} {n m : Nat}, incFrom n l = true → m ≤ n → incFrom m l = true
  | [], _, _, _, _ => rfl
  | a :: l, n, m, h, hm => by
   simp only [incFrom, yb] at h ⊢
   exact ⟨nl.2 (yb2 hm (nl.1 h.1)), h.2⟩
theorem zee {env : Nat → KV} {tmps : List AV} (he : EnvR env tmps) : ∀ {live : List Nat} {k : List KV → Option R}, getsK env (live.map .tmp) k = some r →
  ∃ vs, k vs = some r ∧ valsAt tmps 0 live = KV.downs vs ∧ vs.length = live.length ∧ (∀ (j t : Nat), live[j]? = some t → t < tmps.length ∧ ∃ v : KV, vs[j]? = some v ∧ v ≠ .gone ∧ tmps[t]? = some v.down)
 | [], k, h => ⟨[], h, rfl, rfl, by simp⟩
 | t :: live, k, h => by
  simp only [yu1, getsK] at h
  obtain ⟨v, hv, h, hg⟩ := zd he h
  obtain ⟨vs, h, hvs, hl, hj⟩ := zee he h
  have ht : tmps[t]? = some v.down := by
   simp only [evalA, getT] at hv
   rw [zf, obs] at hv
   obtain ⟨w, hw, hv⟩ := hv
   cases hgw : isGone w with
   | true => rw [hgw] at hv; cases hv
   | false => rw [hgw] at hv; rw [hw]; exact hv
  refine ⟨v :: vs, h, by simp [valsAt, ht, hvs, KV.downs], by simp [hl], fun j u hu => ?_⟩
  cases j with
  | zero =>
   obtain rfl := ya hu
   exact ⟨(ye.1 ht).1, v, rfl, hg, ht⟩
  | succ j => exact hj j u (by simpa using hu)
theorem zgq : ∀ {live : List Nat} {vs : List KV} {t : Nat}, envOf live vs t = .gone ∨ ∃ (j : Nat) (v : KV), live[j]? = some t ∧ vs[j]? = some v ∧ envOf live vs t = v
 | [], vs, t => .inl (by cases vs <;> rfl)
 | a :: live, [], t => .inl rfl
 | a :: live, v :: vs, t => by
  simp only [envOf]
  cases hta : Nat.beq t a with
  | true => obtain rfl := nb.1 hta; exact .inr ⟨0, v, rfl, rfl, rfl⟩
  | false =>
   simp only [yh]
   rcases zgq (live := live) (vs := vs) (t := t) with h | ⟨j, w, h1, h2, h3⟩
   ·exact .inl h
   ·exact .inr ⟨j + 1, w, h1, h2, h3⟩
theorem zeE (f : Ren) : ∀ vs : List AV, (AV.renAll f vs).length = vs.length
 | [] => rfl
 | v :: vs => by simp [AV.renAll, zeE f vs]
theorem zhQ (f : Ren) : ∀ (vs : List AV) (j : Nat), (AV.renAll f vs)[j]? = (vs[j]?).map fun v => v.ren f
 | [], j => by simp [AV.renAll]
 | v :: vs, 0 => rfl
 | v :: vs, j + 1 => by simpa [AV.renAll] using zhQ f vs j
theorem zgU (f : Ren) : ∀ (vs : List KV) (j : Nat), (KV.renAll f vs)[j]? = (vs[j]?).map fun v => v.ren f
 | [], j => by simp [KV.renAll]
 | v :: vs, 0 => rfl
 | v :: vs, j + 1 => by simpa [KV.renAll] using zgU f vs j
theorem zcP {live : List Nat} : ∀ (tmps : List AV) (i : Nat), (clearTo live tmps i).length = tmps.length
 | [], _ => rfl
 | v :: tmps, i => by simp [clearTo, zcP tmps]
theorem zfY {live : List Nat} : ∀ (tmps : List AV) (i j : Nat), (clearTo live tmps i)[j]? = (tmps[j]?).map fun v => bif memN (i + j) live then v else .goneV
 | [], i, j => by simp [clearTo]
 | v :: tmps, i, 0 => by simp [clearTo]
 | v :: tmps, i, j + 1 => by
  simp only [clearTo, ye1, zfY tmps]
  rw [show i + 1 + j = i + (j + 1) by omega]
theorem zez {m : Nat} {vs ws : List AV} (h : AV.refsAll vs = AV.refsAll ws) : ∀ (n : Nat) (mem : Mem), settleH m vs n mem = settleH m ws n mem
 | 0, _ => rfl
 | n + 1, mem => by
  simp only [settleH, h]
  cases findHole m (AV.refsAll ws ++ memRefs mem) mem mem 0 with
  | none => rfl
  | some q =>
   simp only
   cases giveBack mem q.1 q.2 with
   | none => rfl
   | some mem' => simp only [yc, zez h n mem']
theorem zfv {m : Nat} {vs ws : List AV} (h : AV.refsAll vs = AV.refsAll ws) : ∀ (n : Nat) (mem : Mem), sweepH m vs n mem = sweepH m ws n mem
 | 0, _ => rfl
 | b + 1, mem => by simp only [sweepH, h, zfv h b]
theorem zgS {m : Nat} {vs ws : List AV} (h : AV.refsAll vs = AV.refsAll ws) (mem : Mem) : tidyH m vs mem = tidyH m ws mem := by
 unfold tidyH; rw [zfv h, zez h]
theorem zjJ {keep : Bool} {old : List (Option Bool)} {live : List Nat} {st : KSt} {k : KSt → Option R} {tmps : List AV} (he : EnvR st.env tmps) (hs : incFrom 0 live = true) (h : headK (real R) keep old live st k = some r) :
  ∃ st1 tmps1, k st1 = some r ∧ headA keep old live ⟨tmps, kdown st.mem⟩ = some ⟨tmps1, kdown st1.mem⟩ ∧ EnvR st1.env tmps1 ∧ tmps1.length = tmps.length := by
 unfold headK at h
 obtain ⟨vs, h, hvs, hl, hj⟩ := zee he h
 unfold canonK at h
 obtain ⟨mem1, h, hset⟩ := zff h
 simp only at h
 rw [cds] at h
 obtain ⟨hg, h⟩ := h
 have hrefs : AV.refsAll (clearTo live tmps 0) = KV.refsAll vs := by
  rw [zbL (suf := live) (fun a _ => zba) hs, hvs, zn]
 rw [zgS (ws := clearTo live tmps 0) (by rw [hrefs, zn])] at hset
 generalize hids : reachK mem1 (reachFuelK mem1 (old.length + (KV.refsAll vs).length)) (rangeN 0 old.length ++ KV.refsAll vs) [] = ids at h hg
 refine ⟨_, AV.renAll (renToK old.length keep mem1 ids) (clearTo live tmps 0), h, ?_, ?_, by rw [zeE, zcP]⟩
 ·have hc : canon keep old (clearTo live tmps 0) (kdown st.mem) = some (AV.renAll (renToK old.length keep mem1 ids) (clearTo live tmps 0), kdown (pickMemK old.length keep (renToK old.length keep mem1 ids) mem1 0 ids)) := by
   unfold canon
   rw [hset]
   simp only [yc, hrefs, zgc, zdo, zcH, zeP, zem, hids]
   rw [gds]
   exact ⟨hg, rfl⟩
  simp only [headA, hc, yk]
 ·intro t
  rcases zgq (live := live) (vs := KV.renAll (renToK old.length keep mem1 ids) vs) (t := t) with h1 | ⟨j, v, h1, h2, h3⟩
  ·exact .inl h1
  ·right
   rw [zgU] at h2
   obtain ⟨v0, hv0, rfl⟩ := yd.1 h2
   obtain ⟨hlt, w, hw, hgone, htw⟩ := hj j t h1
   rw [hv0] at hw
   obtain rfl := ya hw
   have hmem : memN t live = true := zba.2 (yj h1)
   simp only [h3]
   refine ⟨?_, ?_⟩
   ·rw [zf, zhQ, zfY, yy, hmem, htw]
    simp only [yg, yk, zdR]
   ·cases hg2 : isGone (v0.ren (renToK old.length keep mem1 ids)).down with
    | false => rfl
    | true =>
     exfalso
     have := zbV.1 hg2
     cases v0 <;> simp only [KV.ren] at this <;> first | exact hgone rfl | cases this | (split at this <;> cases this)
theorem zow {i c : Nat} {β ag : Bool} {T : Ty} {ys : List (den T)} {hs : Holes} {nb : Nat} {k : KV → Holes → List KRow → Option R} {xs : List PV} {p q : PV}
  (hp : xs[i]? = some p) (hq : p.cells[c]? = some q) (hcell : q = pvSl ag T ys) (h : readOK (real R) true i c (.tsl β ag T ys) hs nb k = some r) :
  ∃ a hs' rows, k a hs' rows = some r ∧ ∃ v, readO true xs i c (.sl 0 0) (holesD hs) nb = some (v, holesD hs', rows.map KRow.down) := by
 unfold readOK at h
 unfold readO
 simp only [hp, hq, yc, findCD]
 cases hf : findCK c hs with
 | some hh =>
  rw [hf] at h
  simp only [real_guard] at h
  rw [cds] at h
  refine ⟨_, _, _, h.2, hh.2.down, ?_⟩
  simp only [yk]
  rw [gds]
  exact ⟨h.1, rfl⟩
 | none =>
  rw [hf] at h
  simp only [yg] at h
  refine ⟨_, _, _, h, .msw nb 0, ?_⟩
  simp only [Option.map_none, flatLK, yh]
  rw [gds]
  exact ⟨rfl, by rw [hcell, zhX]; rfl⟩
theorem zkT {s : KV} {n c : Nat} {k : KMem → Option R} (h : takeAtK (real R) mem s n c k = some r) : ∃ mem', k mem' = some r ∧ takeAt (kdown mem) s.down n c = some (kdown mem') := by
 unfold takeAtK at h
 split at h
 ·rename_i b g
  obtain ⟨bx, hbx, h⟩ := zaa h
  split at h
  ·rename_i T xs hs hrow
   simp only [real_getN] at h
   rw [obs] at h
   obtain ⟨x, hx, h⟩ := h
   split at h
   ·rename_i β ag T' ys hcell
    rw [zf] at hcell
    obtain ⟨y, hy, hcy⟩ := (CellsR.of true T x).2 _ _ hcell
    have hcy' : y = pvSl ag T' ys := by
     rcases hcy with ⟨_, _, e, _⟩ | ⟨_, e, _⟩ | ⟨_, e, _⟩ | ⟨_, _, _, e, rfl⟩ <;> cases e
     rfl
    have hp : (xs.map (pvEl (agOf T) T))[n]? = some (pvEl (agOf T) T x) := by rw [yc1, hx]; rfl
    obtain ⟨_, hs', rows, h, v, hr⟩ := zow hp (by rw [zr]; exact hy) hcy' h
    refine ⟨_, h, ?_⟩
    have hd : bx.down.row = .own T.size (xs.map (pvEl (agOf T) T)) (holesD hs) := by rw [show bx.down.row = bx.row.down from rfl, hrow]; rfl
    simp only [KV.down, takeAt, hbx, yc, hd]
    rw [zQ, hr, yk, zke, zdc, zcY]; rfl
   ·cases h
  ·cases h
 ·cases h
theorem zoB {off : Nat} {v : KV} {k : KV → Option R} (h : pathK mem off v k = some r) : ∃ s, k s = some r ∧ pathA (kdown mem) off v.down = some s.down := by
 unfold pathK at h
 split at h
 ·rename_i b g i c
  obtain ⟨x, hx, h⟩ := zw h
  split at h
  ·rename_i e cs hrow
   split at h
   ·rename_i v hv
    rw [zf] at hv
    refine ⟨v, h, ?_⟩
    have hd : x.down.row = .cells e (KV.downs cs) := by rw [show x.down.row = x.row.down from rfl, hrow]; rfl
    simp only [KV.down, pathA, hx, yc, hd]
    exact zcs hv
   ·cases h
  ·cases h
 ·rename_i hno
  refine ⟨v, h, ?_⟩
  cases v with
  | ptr b g i c => exact (hno _ _ _ _ rfl).elim
  | _ => rfl
theorem zod {env : Nat → KV} {tmps : List AV} (he : EnvR env tmps) {q : Operand × Nat × Operand × Nat} {k : KMem → Option R} (h : takeK (real R) env mem q k = some r) : ∃ mem', k mem' = some r ∧ takeA tmps (kdown mem) q = some (kdown mem') := by
 unfold takeK at h
 obtain ⟨p, hp, h, _⟩ := zd he h
 obtain ⟨s, h, hs⟩ := zoB h
 obtain ⟨v, hv, h, _⟩ := zd he h
 split at h
 ·rename_i kd n
  simp only [real_guard] at h
  rw [cds] at h
  obtain ⟨mem', h2, ht⟩ := zkT h.2
  refine ⟨mem', h2, ?_⟩
  simp only [takeA, hp, hs, hv, yc, KV.down]
  rw [gds]
  exact ⟨h.1, ht⟩
 ·cases h
theorem zie {env : Nat → KV} {tmps : List AV} (he : EnvR env tmps) : ∀ {l : List (Operand × Nat × Operand × Nat)} {mem : KMem} {k : KMem → Option R}, takesK (real R) env l mem k = some r → ∃ mem', k mem' = some r ∧ takesA tmps l (kdown mem) = some (kdown mem')
 | [], mem, k, h => ⟨mem, h, rfl⟩
 | q :: l, mem, k, h => by
  simp only [takesK] at h
  obtain ⟨mem1, h, h1⟩ := zod he h
  obtain ⟨mem2, h, h2⟩ := zie he h
  exact ⟨mem2, h, by simp only [takesA, h1, yc, h2]⟩
theorem zoQ {an : Ann} {rid : Nat} {old : List (Option Bool)} {st : KSt} {k : KSt → Option R} {tmps : List AV} (he : EnvR st.env tmps) (h : tidyK (real R) an rid old st k = some r) :
  ∃ st1 tmps1, k st1 = some r ∧ tidyA an rid old ⟨tmps, kdown st.mem⟩ = some ⟨tmps1, kdown st1.mem⟩ ∧ EnvR st1.env tmps1 ∧ tmps1.length = tmps.length := by
 unfold tidyK at h
 unfold tidyA
 cases hq : assoc rid an.tidy with
 | none => rw [hq] at h; exact ⟨st, tmps, h, rfl, he, rfl⟩
 | some q =>
  rw [hq] at h
  simp only at h ⊢
  rw [cds] at h
  obtain ⟨hs, h⟩ := h
  obtain ⟨vs, h, hvs, hl, hj⟩ := zee he h
  obtain ⟨mem1, h, hset⟩ := zff h
  have hrefs : AV.refsAll (clearTo q.1 tmps 0) = KV.refsAll vs := by
   rw [zbL (suf := q.1) (fun a _ => zba) hs, hvs, zn]
  rw [zgS (ws := clearTo q.1 tmps 0) (by rw [hrefs, zn])] at hset
  have he1 : EnvR (envOf q.1 vs) (clearTo q.1 tmps 0) := by
   intro t
   rcases zgq (live := q.1) (vs := vs) (t := t) with h1 | ⟨j, v, h1, h2, h3⟩
   ·exact .inl h1
   ·right
    obtain ⟨hlt, w, hw, hgone, htw⟩ := hj j t h1
    rw [h2] at hw
    obtain rfl := ya hw
    have hmem : memN t q.1 = true := zba.2 (yj h1)
    rw [h3]
    refine ⟨by rw [zf, zfY, yy, hmem, htw]; rfl, ?_⟩
    cases hg2 : isGone v.down with
    | false => rfl
    | true => exact (hgone (zbV.1 hg2)).elim
  obtain ⟨mem2, h, htk⟩ := zie he1 h
  refine ⟨_, clearTo q.1 tmps 0, h, ?_, he1, zcP _ _⟩
  rw [hset, yc, htk, yk]
end
end Go.Ab
