/- The second evaluator is the first one: regions, heads of loops. -/
import Derived.Test.YtmoldheenagboaaLib19
set_option linter.unusedVariables false
set_option linter.unusedSectionVars false
set_option linter.unusedSimpArgs false
namespace Go.Ab
variable [GTab]
section
variable {P : Program} {R R1 : Type} {r : R} {r1 : R1} {mem : KMem} {tab : TypeId → Option TI} {C : Oracle} {tbl : FuncId → List Entry}
theorem zfK : ∀ (wr : List (Nat × KBox)) (mem : KMem), kdown (setMemK mem wr) = setMem (kdown mem) (wr.map fun q => (q.1, q.2.down))
 | [], mem => rfl
 | (b, x) :: wr, mem => by
  simp only [setMemK, List.map_cons, setMem, zS]
  rw [zfK wr]
  congr 1
  simp [kdown, List.map_set]
theorem zlk (o : KOut) (mem : KMem) : kdown (o.apply mem) = o.down.apply (kdown mem) := by
 unfold KOut.apply Out.apply
 have : kdown (setMemK mem o.wr ++ o.push) = kdown (setMemK mem o.wr) ++ kdown o.push := by simp [kdown]
 rw [this, zfK]; rfl
theorem zhs (v : KV) : ptrOf v.down = ptrOfK v := by
 cases v <;> rfl
theorem zeg (x : KBox) : ptrCode x.down = ptrCodeK x := by
 obtain ⟨g, f, row⟩ := x
 cases row with
 | ts β ag T xs =>
  unfold ptrCode ptrCodeK KBox.down KRow.down
  simp only
  cases pvSl ag T xs <;> rfl
 | cells e cs =>
  show some (g, e, (KV.downs cs).map ptrOf) = some (g, e, cs.map ptrOfK)
  rw [zC, List.map_map]
  congr 3
  exact List.map_congr_left fun v _ => zhs v
theorem zcO (mem : KMem) (b : Nat) : ptrCodeAt (kdown mem) b = ptrCodeAtK mem b := by
 unfold ptrCodeAt ptrCodeAtK
 rw [zq, zar]
 cases mem[b]? with
 | none => rfl
 | some x =>
  cases x with
  | none => rfl
  | some x => exact zeg x
theorem zgO (mem : KMem) (wr : List (Nat × KBox)) : keepsPtrs (kdown mem) (wr.map fun q => (q.1, q.2.down)) = keepsPtrsK mem wr := by
 funext b
 unfold keepsPtrs keepsPtrsK
 rw [List.all_map]
 congr 1
 funext q
 simp only [Function.comp, zeg, zcO]
theorem znm (op : Op) (mem : KMem) (v : KV) (rd : List Nat) : rcOf op (kdown mem) v.down rd = rcOfK op mem v rd := by
 unfold rcOf rcOfK
 rw [zhs]
 congr 1
 rcases rd with _ | ⟨b, _ | ⟨c, r⟩⟩
 ·rfl
 ·simp only [zcO]
  cases ptrCodeAtK mem b <;> rfl
 ·rfl
theorem zou (o : KOut) (mk : Bool) (rs i : Nat) (op : Op) (mem : KMem) : o.down.tr mk rs i op (kdown mem) = o.tr mk rs i op mem := by
 unfold Out.tr KOut.tr
 simp only [KOut.down, List.map_map, znm, zgO]
 congr 1
 cases o.push <;> rfl
theorem zlg (mem : KMem) (rs : Nat) : isRes (kdown mem) rs = isResK mem rs := by
 unfold isRes isResK
 rw [zq, zar]
 cases mem[rs]? with
 | none => rfl
 | some x => cases x <;> rfl
theorem zie : ∀ mem : KMem, trim (kdown mem) = kdown (trimK mem)
 | [] => rfl
 | x :: m => by
  have ih := zie m
  show (match trim (kdown m) with | [] => bif isNew (x.map KBox.down) then [] else [x.map KBox.down] | y => x.map KBox.down :: y) = _
  rw [ih]
  simp only [trimK]
  cases trimK m with
  | nil => cases x <;> rfl
  | cons y ys => rfl
theorem EnvR.set {env : Nat → KV} {tmps : List AV} (h : EnvR env tmps) {d : Nat} (hd : d < tmps.length) (v : KV) : EnvR (envSet env d v) (setR v.down tmps d) := by
 intro t
 unfold envSet
 cases ht : Nat.beq t d with
 | true =>
  obtain rfl := nb.1 ht
  simp only [cond_true]
  cases hg : isGone v.down with
  | true => exact .inl (zcV.1 hg)
  | false => exact .inr ⟨by rw [zq, zS, List.getElem?_set_self hd], rfl⟩
 | false =>
  simp only [cond_false]
  have hne : t ≠ d := fun e => by rw [e, Nat.beq_refl] at ht; cases ht
  rcases h t with h1 | ⟨h1, h2⟩
  ·exact .inl h1
  ·refine .inr ⟨?_, h2⟩
   rw [zq, zS, List.getElem?_set_ne (fun e => hne e.symm), ← zq]; exact h1
theorem EnvR.put {env : Nat → KV} {tmps : List AV} (h : EnvR env tmps) {dst : Option Tmp} (hd : ∀ d, dst = some d → d < tmps.length) (v : KV) : EnvR (envPut env dst v) (putA tmps dst v.down) := by
 cases dst with
 | none => exact h
 | some d => exact h.set (hd d rfl) v
theorem zbC (tmps : List AV) (dst : Option Tmp) (v : AV) : (putA tmps dst v).length = tmps.length := by
 cases dst <;> simp [putA, zS]
theorem zmL {h : Option Int} {v : KV} {k : KV → Option R} {k1 : AV → Option R1} (hk : ∀ w, k w = some r → k1 w.down = some r1) (hh : hintK (real R) h v k = some r) : hintOk h v.down k1 = some r1 := by
 unfold hintK at hh
 split at hh
 ·exact hk _ hh
 ·split at hh
  ·simp only [real_guard] at hh
   rw [cds] at hh
   simp only [KV.down, hintOk, gds]
   exact ⟨hh.1, hk _ hh.2⟩
  ·cases hh
theorem zgX (ht : TabOK P tab) (hC : AskOK C tbl) {an : Ann} {rid : Nat} {ds : List (Option Tmp)} : ∀ {ops : List Oper} {i rs : Nat} {st : KSt} {tr : List Tr} {k : KSt → List Tr → Option R} {k1 : St → List Tr → Option R1} {tmps : List AV},
  (∀ o ∈ ops, ∀ d, o.dst = some d → d < tmps.length) → EnvR st.env tmps → opsK (real R) tab tbl an rid ds ops i rs st tr k = some r →
  (∀ st' tr' tmps', k st' tr' = some r → EnvR st'.env tmps' → tmps'.length = tmps.length → k1 ⟨tmps', kdown st'.mem⟩ tr' = some r1) → opsA P C an rid ds ops i rs ⟨tmps, kdown st.mem⟩ tr k1 = some r1
 | [], i, rs, st, tr, k, k1, tmps, hd, he, h, hk => hk _ _ _ h he rfl
 | o :: ops, i, rs, st, tr, k, k1, tmps, hd, he, h, hk => by
  have run : ∀ {env : Nat → KV} {tmps1 : List AV}, EnvR env tmps1 → tmps1.length = tmps.length →
    (bif (bif makes o.op then isResK st.mem rs else true) then opK (real R) tab tbl (hasPair rid i an.boxed) (hasPair rid i an.raw) (hasPair rid i an.vars) o env st.mem rs fun out =>
     hintK (real R) (hintAt rid i an.hint) out.v fun v => opsK (real R) tab tbl an rid ds ops (i + 1) (bif makes o.op then rs + 1 else rs) ⟨envPut env o.dst v, out.apply st.mem⟩ (out.tr (makes o.op) rs i o.op st.mem :: tr) k else none) = some r →
    guardB (bif makes o.op then isRes (kdown st.mem) rs else true) ((opA P C (hasPair rid i an.boxed) (hasPair rid i an.raw) (hasPair rid i an.vars) o (evalA tmps1) (kdown st.mem) rs).bind fun out =>
     hintOk (hintAt rid i an.hint) out.v fun v => opsA P C an rid ds ops (i + 1) (bif makes o.op then rs + 1 else rs) { tmps := putA tmps1 o.dst v, mem := out.apply (kdown st.mem) } (out.tr (makes o.op) rs i o.op (kdown st.mem) :: tr) k1) = some r1 := by
   intro env tmps1 he1 hl h
   rw [cds] at h
   obtain ⟨hm, h⟩ := h
   obtain ⟨out, h, hop⟩ := zoM ht hC he1 h
   rw [gds]
   refine ⟨by rw [zlg]; exact hm, ?_⟩
   rw [hop]; simp only [Option.bind_some]
   refine zmL (fun w hw => ?_) h
   rw [zou, ← zlk]
   exact zgX ht hC (st := ⟨envPut env o.dst w, out.apply st.mem⟩) (tmps := putA tmps1 o.dst w.down) (fun o' ho' d hd' => by rw [zbC, hl]; exact hd o' (List.mem_cons_of_mem _ ho') d hd')
    (he1.put (fun d hd' => by rw [hl]; exact hd o (List.mem_cons_self ..) d hd') w) hw (fun st' tr' tmps' h1 h2 h3 => hk st' tr' tmps' h1 h2 (by rw [h3, zbC, hl]))
  have skip : ∀ {env : Nat → KV} {tmps1 : List AV}, EnvR env tmps1 → tmps1.length = tmps.length → opsK (real R) tab tbl an rid ds ops (i + 1) (bif makes o.op then rs + 1 else rs) ⟨envPut env o.dst (.lit undef), st.mem⟩ tr k = some r →
    opsA P C an rid ds ops (i + 1) (bif makes o.op then rs + 1 else rs) { tmps := putA tmps1 o.dst (.lit undef), mem := kdown st.mem } tr k1 = some r1 := by
   intro env tmps1 he1 hl h
   exact zgX ht hC (st := ⟨envPut env o.dst (.lit undef), st.mem⟩) (tmps := putA tmps1 o.dst (.lit undef)) (fun o' ho' d hd' => by rw [zbC, hl]; exact hd o' (List.mem_cons_of_mem _ ho') d hd')
    (he1.put (fun d hd' => by rw [hl]; exact hd o (List.mem_cons_self ..) d hd') (.lit undef)) h (fun st' tr' tmps' h1 h2 h3 => hk st' tr' tmps' h1 h2 (by rw [h3, zbC, hl]))
  simp only [opsK] at h
  simp only [opsA]
  cases hgd : o.guard with
  | none =>
   rw [hgd] at h
   exact run he rfl h
  | some q =>
   obtain ⟨j, want⟩ := q
   rw [hgd] at h
   simp only at h ⊢
   rw [zq] at h
   cases hds : ds[j]? with
   | none => rw [hds] at h; cases h
   | some dd =>
    rw [hds] at h
    cases dd with
    | none => cases h
    | some d =>
     simp only at h ⊢
     have hed := he d
     cases hv : st.env d with
     | lit v =>
      rw [hv] at h hed
      rcases hed with h0 | ⟨h0, _⟩
      ·cases h0
      ·have hlt : d < tmps.length := by rw [zq] at h0; exact (List.getElem?_eq_some_iff.1 h0).1
       rw [h0]
       cases v with
       | bool b =>
        simp only [KV.down, real_ite] at h ⊢
        cases b with
        | true =>
         simp only [cond_true] at h ⊢
         have he1 := he.set hlt (.lit (.bool true))
         have hl1 : (setR (KV.lit (.bool true)).down tmps d).length = tmps.length := by rw [zS]; simp
         cases want with
         | true => exact run he1 hl1 h
         | false => exact skip he1 hl1 h
        | false =>
         simp only [cond_false] at h ⊢
         have he1 := he.set hlt (.lit (.bool false))
         have hl1 : (setR (KV.lit (.bool false)).down tmps d).length = tmps.length := by rw [zS]; simp
         cases want with
         | true => exact skip he1 hl1 h
         | false => exact run he1 hl1 h
       | tuple vs => exact skip he rfl h
       | _ => cases h
     | _ => rw [hv] at h; cases h
theorem zkz (ht : TabOK P tab) (hC : AskOK C tbl) {an : Ann} {rid : Nat} {ops : Array Oper} {draw : Bool} {st : KSt} {k : KSt → Option R} {k1 : St → Option R1} {tmps : List AV} (hd : ∀ o ∈ ops.toList, ∀ d, o.dst = some d → d < tmps.length) (he : EnvR st.env tmps)
  (h : regionK (real R) tab tbl an rid ops draw st k = some r) (hk : ∀ st' tmps', k st' = some r → EnvR st'.env tmps' → tmps'.length = tmps.length → k1 ⟨tmps', kdown st'.mem⟩ = some r1) : regionA P C an rid ops draw ⟨tmps, kdown st.mem⟩ k1 = some r1 := by
 unfold regionK at h
 unfold regionA
 simp only at h ⊢
 have hm : kdown st.mem ++ List.replicate (makesN ops.toList) none = kdown (st.mem ++ List.replicate (makesN ops.toList) none) := by simp [kdown]
 rw [zaH, hm]
 refine zgX ht hC (st := ⟨st.env, st.mem ++ List.replicate (makesN ops.toList) none⟩) hd he h fun st' tr' tmps' h1 h2 h3 => ?_
 rw [cds] at h1
 rw [gds]
 refine ⟨h1.1, ?_⟩
 simp only
 rw [zie]
 exact hk ⟨st'.env, trimK st'.mem⟩ tmps' h1.2 h2 h3
def incFrom : Nat → List Nat → Bool
 | _, [] => true
 | n, a :: r => Nat.ble n a && incFrom (a + 1) r
theorem zca {b : Nat} : ∀ {l : List Nat}, memN b l = true ↔ b ∈ l
 | [] => by simp [memN]
 | a :: l => by
  simp only [memN, Bool.or_eq_true, nb, zca (l := l), List.mem_cons]
  exact ⟨fun h => h.imp Eq.symm id, fun h => h.imp Eq.symm id⟩
theorem zdL : ∀ {l : List Nat} {n a : Nat}, incFrom n l = true → a ∈ l → n ≤ a
 | b :: l, n, a, h, ha => by
  simp only [incFrom, Bool.and_eq_true] at h
  have h1 := nl.1 h.1
  cases ha with
  | head => exact h1
  | tail _ ha => have := zdL h.2 ha; omega
def valsAt (tmps : List AV) (i : Nat) : List Nat → List AV
 | [] => []
 | a :: l => (tmps[a - i]?).toList ++ valsAt tmps i l
theorem zcw {live : List Nat} : ∀ {tmps : List AV} {i : Nat} {suf : List Nat}, (∀ a, i ≤ a → (memN a live = true ↔ a ∈ suf)) → incFrom i suf = true → AV.refsAll (clearTo live tmps i) = AV.refsAll (valsAt tmps i suf)
 | [], i, suf, h, hs => by
  have : valsAt [] i suf = [] := by
   clear h hs
   induction suf with
   | nil => rfl
   | cons a l ih => simp [valsAt, ih]
  rw [this]; rfl
 | v :: tmps, i, suf, h, hs => by
  have shift : ∀ {l : List Nat}, incFrom (i + 1) l = true → valsAt (v :: tmps) i l = valsAt tmps (i + 1) l := by
   intro l
   induction l with
   | nil => intro _; rfl
   | cons a l ih =>
    intro hl
    have hle := zdL hl (List.mem_cons_self ..)
    simp only [incFrom, Bool.and_eq_true] at hl
    simp only [valsAt]
    rw [ih (incFrom_mono hl.2 (by omega))]
    rw [show a - i = (a - (i + 1)) + 1 by omega, List.getElem?_cons_succ]
  cases suf with
  | nil =>
   have hn : memN i live = false := by
    cases hm : memN i live with
    | false => rfl
    | true => have := (h i (Nat.le_refl _)).1 hm; cases this
   simp only [clearTo, hn, cond_false, AV.refsAll]
   rw [zcw (suf := []) (fun a ha => h a (by omega)) rfl]
   rfl
  | cons a l =>
   have hs' := hs
   simp only [incFrom, Bool.and_eq_true] at hs
   have hia := nl.1 hs.1
   by_cases e : a = i
   ·subst e
    have hm : memN a live = true := (h a (Nat.le_refl _)).2 (List.mem_cons_self ..)
    simp only [clearTo, hm, cond_true, AV.refsAll]
    rw [zcw (suf := l) (fun b hb => ?_) hs.2]
    ·simp only [valsAt, Nat.sub_self, List.getElem?_cons_zero, Option.toList_some, List.singleton_append, AV.refsAll]
     rw [shift hs.2]
    ·rw [h b (by omega)]
     constructor
     ·intro hb2
      cases hb2 with
      | head => omega
      | tail _ x => exact x
     ·exact fun x => List.mem_cons_of_mem _ x
   ·have hn : memN i live = false := by
     cases hm : memN i live with
     | false => rfl
     | true =>
      have h1 := (h i (Nat.le_refl _)).1 hm
      have h2 := zdL (l := a :: l) (n := a) (by simp only [incFrom, Bool.and_eq_true]; exact ⟨nl.2 (Nat.le_refl _), hs.2⟩) h1
      omega
    have hinc : incFrom (i + 1) (a :: l) = true := by simp only [incFrom, Bool.and_eq_true]; exact ⟨nl.2 (by omega), hs.2⟩
    simp only [clearTo, hn, cond_false, AV.refsAll]
    rw [zcw (suf := a :: l) (fun b hb => h b (by omega)) hinc, shift hinc]
    rfl
 where
 incFrom_mono : ∀ {l : List Nat} {n m : Nat}, incFrom n l = true → m ≤ n → incFrom m l = true
  | [], _, _, _, _ => rfl
  | a :: l, n, m, h, hm => by
   simp only [incFrom, Bool.and_eq_true] at h ⊢
   exact ⟨nl.2 (Nat.le_trans hm (nl.1 h.1)), h.2⟩
theorem zeS {env : Nat → KV} {tmps : List AV} (he : EnvR env tmps) : ∀ {live : List Nat} {k : List KV → Option R}, getsK env (live.map .tmp) k = some r →
  ∃ vs, k vs = some r ∧ valsAt tmps 0 live = KV.downs vs ∧ vs.length = live.length ∧ (∀ (j t : Nat), live[j]? = some t → t < tmps.length ∧ ∃ v : KV, vs[j]? = some v ∧ v ≠ .gone ∧ tmps[t]? = some v.down)
 | [], k, h => ⟨[], h, rfl, rfl, by simp⟩
 | t :: live, k, h => by
  simp only [List.map_cons, getsK] at h
  obtain ⟨v, hv, h, hg⟩ := zk he h
  obtain ⟨vs, h, hvs, hl, hj⟩ := zeS he h
  have ht : tmps[t]? = some v.down := by
   simp only [evalA, getT] at hv
   rw [zq, obs] at hv
   obtain ⟨w, hw, hv⟩ := hv
   cases hgw : isGone w with
   | true => rw [hgw] at hv; cases hv
   | false => rw [hgw] at hv; rw [hw]; exact hv
  refine ⟨v :: vs, h, by simp [valsAt, ht, hvs, KV.downs], by simp [hl], fun j u hu => ?_⟩
  cases j with
  | zero =>
   obtain rfl := Option.some.inj hu
   exact ⟨(List.getElem?_eq_some_iff.1 ht).1, v, rfl, hg, ht⟩
  | succ j => exact hj j u (by simpa using hu)
theorem zio : ∀ {live : List Nat} {vs : List KV} {t : Nat}, envOf live vs t = .gone ∨ ∃ (j : Nat) (v : KV), live[j]? = some t ∧ vs[j]? = some v ∧ envOf live vs t = v
 | [], vs, t => .inl (by cases vs <;> rfl)
 | a :: live, [], t => .inl rfl
 | a :: live, v :: vs, t => by
  simp only [envOf]
  cases hta : Nat.beq t a with
  | true => obtain rfl := nb.1 hta; exact .inr ⟨0, v, rfl, rfl, rfl⟩
  | false =>
   simp only [cond_false]
   rcases zio (live := live) (vs := vs) (t := t) with h | ⟨j, w, h1, h2, h3⟩
   ·exact .inl h
   ·exact .inr ⟨j + 1, w, h1, h2, h3⟩
theorem zdr (f : Ren) : ∀ vs : List AV, (AV.renAll f vs).length = vs.length
 | [] => rfl
 | v :: vs => by simp [AV.renAll, zdr f vs]
theorem zhv (f : Ren) : ∀ (vs : List AV) (j : Nat), (AV.renAll f vs)[j]? = (vs[j]?).map fun v => v.ren f
 | [], j => by simp [AV.renAll]
 | v :: vs, 0 => rfl
 | v :: vs, j + 1 => by simpa [AV.renAll] using zhv f vs j
theorem zfR (f : Ren) : ∀ (vs : List KV) (j : Nat), (KV.renAll f vs)[j]? = (vs[j]?).map fun v => v.ren f
 | [], j => by simp [KV.renAll]
 | v :: vs, 0 => rfl
 | v :: vs, j + 1 => by simpa [KV.renAll] using zfR f vs j
theorem zen {live : List Nat} : ∀ (tmps : List AV) (i : Nat), (clearTo live tmps i).length = tmps.length
 | [], _ => rfl
 | v :: tmps, i => by simp [clearTo, zen tmps]
theorem ziM {live : List Nat} : ∀ (tmps : List AV) (i j : Nat), (clearTo live tmps i)[j]? = (tmps[j]?).map fun v => bif memN (i + j) live then v else .goneV
 | [], i, j => by simp [clearTo]
 | v :: tmps, i, 0 => by simp [clearTo]
 | v :: tmps, i, j + 1 => by
  simp only [clearTo, List.getElem?_cons_succ, ziM tmps]
  rw [show i + 1 + j = i + (j + 1) by omega]
theorem ziP {old : List (Option Bool)} {live : List Nat} {st : KSt} {k : KSt → Option R} {tmps : List AV} (he : EnvR st.env tmps) (hs : incFrom 0 live = true) (h : headK old live st k = some r) :
  ∃ st1 tmps1, k st1 = some r ∧ headA old live ⟨tmps, kdown st.mem⟩ = some ⟨tmps1, kdown st1.mem⟩ ∧ EnvR st1.env tmps1 ∧ tmps1.length = tmps.length := by
 unfold headK at h
 obtain ⟨vs, h, hvs, hl, hj⟩ := zeS he h
 unfold canonK at h
 simp only at h
 rw [cds] at h
 obtain ⟨hg, h⟩ := h
 have hrefs : AV.refsAll (clearTo live tmps 0) = KV.refsAll vs := by
  rw [zcw (suf := live) (fun a _ => zca) hs, hvs, zI]
 refine ⟨_, AV.renAll (renToK st.mem (reachK st.mem (reachFuelK st.mem (old.length + (KV.refsAll vs).length)) (rangeN 0 old.length ++ KV.refsAll vs) [])) (clearTo live tmps 0), h, ?_, ?_, by rw [zdr, zen]⟩
 ·have hc : canon old (clearTo live tmps 0) (kdown st.mem) = some (AV.renAll (renToK st.mem (reachK st.mem (reachFuelK st.mem (old.length + (KV.refsAll vs).length)) (rangeN 0 old.length ++ KV.refsAll vs) [])) (clearTo live tmps 0),
    kdown (pickMemK (renToK st.mem (reachK st.mem (reachFuelK st.mem (old.length + (KV.refsAll vs).length)) (rangeN 0 old.length ++ KV.refsAll vs) [])) st.mem (reachK st.mem (reachFuelK st.mem (old.length + (KV.refsAll vs).length)) (rangeN 0 old.length ++ KV.refsAll vs) []))) := by
   unfold canon
   simp only [hrefs, zeM, zcl, zct, zdS, zdg]
   rw [gds]
   exact ⟨hg, rfl⟩
  simp only [headA, hc, Option.map_some]
 ·intro t
  rcases zio (live := live) (vs := KV.renAll (renToK st.mem (reachK st.mem (reachFuelK st.mem (old.length + (KV.refsAll vs).length)) (rangeN 0 old.length ++ KV.refsAll vs) [])) vs) (t := t) with h1 | ⟨j, v, h1, h2, h3⟩
  ·exact .inl h1
  ·right
   rw [zfR] at h2
   obtain ⟨v0, hv0, rfl⟩ := Option.map_eq_some_iff.1 h2
   obtain ⟨hlt, w, hw, hgone, htw⟩ := hj j t h1
   rw [hv0] at hw
   obtain rfl := Option.some.inj hw
   have hmem : memN t live = true := zca.2 (List.mem_of_getElem? h1)
   simp only [h3]
   refine ⟨?_, ?_⟩
   ·rw [zq, zhv, ziM, Nat.zero_add, hmem, htw]
    simp only [cond_true, Option.map_some, zet]
   ·cases hg2 : isGone (v0.ren (renToK st.mem (reachK st.mem (reachFuelK st.mem (old.length + (KV.refsAll vs).length)) (rangeN 0 old.length ++ KV.refsAll vs) []))).down with
    | false => rfl
    | true =>
     exfalso
     have := zcV.1 hg2
     cases v0 <;> simp only [KV.ren] at this <;> first | exact hgone rfl | cases this | (split at this <;> cases this)
end
end Go.Ab
