import Derived.Test.YtdlbbdbbpoggfaaLib32
import Derived.OpenShut
import Derived.ShutString
import Derived.ChangeOld
import Derived.Below
import Derived.Carry
set_option linter.unusedVariables false
set_option linter.unusedSectionVars false
set_option linter.unusedSimpArgs false
namespace Go.Ab
variable [GTab]
open Go.RowKit Go.ChangeShapes Go.WideShapes
variable {P : Program} {H : Type} {enc : TypeId × Value → H} {w : World}
noncomputable section
def shTy : Sh → Option Ty
 | .int k => some (.int k)
 | .bool => some .bool
 | .str => some .str
 | .sl β ag T => bif β then some (.sl ag T) else none
 | _ => none
def leafSh (P : Program) (t : TypeId) (s : Sh) : Bool := match shTy s with
 | some T => inLeaf P (rdOk P 8) t T
 | none => false
def aggSh (P : Program) : Nat → List (Nat × TypeId) → Sh → Bool
 | _, [], s => (match s with | .nil => true | _ => false)
 | n, q :: r, s => (match s with | .cons a b => Nat.beq q.1 n && leafSh P q.2 a && aggSh P (n + 1) r b | _ => false)
def argSh (P : Program) (t : TypeId) (s : Sh) : Bool := match P.underlying t with
 | some (.struct _) => (match s with
  | .agg l => (match flatT P 8 t with | some ls => Nat.beq ls.length (P.cellsOf t) && aggSh P 0 ls l | none => false)
  | _ => false)
 | some (.array _ _) => false
 | _ => leafSh P t s
def argsSh (P : Program) : List TypeId → Sh → Bool
 | [], s => (match s with | .nil => true | _ => false)
 | t :: ts, s => (match s with | .cons a b => argSh P t a && argsSh P ts b | _ => false)
def FitS : (s : Sh) → s.den → Prop
 | .int k, x => (Lit.int k x).wf = true
 | .str, x => ByteArray.size x ≤ reachBytes
 | .sl _ ag T, xs => Fit (.sl ag T) xs
 | .agg l, p => FitS l p
 | .cons a b, p => FitS a (P2.fst a.dflt a.un b.un p) ∧ FitS b (P2.snd b.dflt a.un b.un p)
 | _, _ => True
def AtS (w : World) (s : Sh) (v : Value) : Prop := ∃ d : s.den, FitS s d ∧ ∃ av, LeS s [av] d ∧ VR (Gst w) w av v
theorem zlx {s : Sh} {T : Ty} {v : Value} (hs : shTy s = some T) (h : LeafAt w T v) : AtS w s v := by
 obtain ⟨x, hf, p, hp, ho, hr⟩ := h
 cases s with
 | int k =>
  obtain rfl := ya hs
  have hp := (yz hp).1
  subst hp
  cases hr
  exact ⟨x, hf, _, rfl, .lit _ rfl⟩
 | bool =>
  obtain rfl := ya hs
  have hp := (yz hp).1
  subst hp
  cases hr
  exact ⟨x, trivial, _, rfl, .lit _ rfl⟩
 | str =>
  obtain rfl := ya hs
  have hp := (yz hp).1
  subst hp
  cases hr
  exact ⟨x, hf, _, rfl, .lit _ rfl⟩
 | sl β ag T' =>
  cases β with
  | false => cases hs
  | true =>
   obtain rfl := ya hs
   have hp : p = pvSl ag T' x := ((yz hp).1).symm
   subst hp
   exact ⟨x, hf, .imm true (pvSl ag T' x), .inl ⟨true, fun _ => rfl, rfl⟩, .imm true _ v hr (zcU ag T' x)⟩
 | _ => cases hs
theorem zgL {t : TypeId} {s : Sh} (h : leafSh P t s = true) : isLeafT P t := by
 unfold leafSh at h
 split at h
 ·exact zgB h
 ·cases h
theorem zgH {t : TypeId} {s : Sh} {fuel : Nat} {v : Value} {y : DataW H × List MemPlace} (h : leafSh P t s = true) (hr : trodR enc P w fuel t [v] = some y) (hw : Lw P t y.1) : AtS w s v := by
 unfold leafSh at h
 split at h
 ·rename_i T hT
  exact zlx hT (zjG (enc := enc) (rd := rdOk P 8) (fuel := fuel) (fun m t T cs x _ h1 h2 h3 => zog m 8 t T cs x h1 h2 h3) t T v h ⟨fuel, y, yx _, hr, hw⟩)
 ·cases h
theorem zhP {cs : List Value} : ∀ {ls : List (Nat × TypeId)} {n : Nat} {s : Sh}, aggSh P n ls s = true → (∀ q ∈ ls, isLeafT P q.2 → ∃ m v y, cs[q.1]? = some v ∧ trodR enc P w m q.2 [v] = some y ∧ Lw P q.2 y.1) →
  ∃ d : s.den, FitS s d ∧ ∃ avs : List AV, LeS s avs d ∧ avs.length = ls.length ∧ ∀ (j : Nat) (a : AV), avs[j]? = some a → ∃ v, cs[n + j]? = some v ∧ VR (Gst w) w a v
 | [], n, s, h, hr => by
  unfold aggSh at h
  split at h
  ·exact ⟨(), trivial, [], rfl, rfl, fun j a ha => by simp at ha⟩
  ·cases h
 | q :: r, n, s, h, hr => by
  unfold aggSh at h
  split at h
  ·rename_i s a b
   simp only [yb] at h
   obtain ⟨m, v, y, hv, hy, hwy⟩ := hr q (yn ..) (zgL h.1.2)
   obtain ⟨d, hf, av, hle, hvr⟩ := zgH h.1.2 hy hwy
   obtain ⟨d2, hf2, avs, hle2, hlen, hvs⟩ := zhP h.2 fun q hq => hr q (yi _ hq)
   refine ⟨P2.mk _ _ d d2, ⟨?_, ?_⟩, av :: avs, ⟨av, avs, rfl, ?_, ?_⟩, by simp [hlen], fun j a ha => ?_⟩
   ·exact Eq.mpr (congrArg (FitS a) (fst_mk d d2)) hf
   ·exact Eq.mpr (congrArg (FitS b) (snd_mk d d2)) hf2
   ·exact Eq.mpr (congrArg (LeS a [av]) (fst_mk d d2)) hle
   ·exact Eq.mpr (congrArg (LeS b avs) (snd_mk d d2)) hle2
   ·cases j with
    | zero =>
     simp at ha; subst ha
     rw [nb.1 h.1.1] at hv
     exact ⟨v, hv, hvr⟩
    | succ j =>
     obtain ⟨v', h1, h2⟩ := hvs j a (by simpa using ha)
     exact ⟨v', by rw [show n + (j + 1) = n + 1 + j by omega]; exact h1, h2⟩
  ·cases h
theorem zlm {t : TypeId} {v : Value} {r : Reach} {base : Nat} (hl : isLeafT P t) (h : Value.okWide P w r base t v) : v.cells.toList = [v] := by
 rcases hl with ⟨k, ht⟩ | ht | ht | ⟨e, ht⟩ <;> simp only [Value.okWide, ht, Cell.okWide] at h <;> cases v <;> simp_all [Cell.ok, Value.cells]
theorem znG {t : TypeId} {s : Sh} {v : Value} {r : Reach} {base : Nat} {d : DataW H} {ps : List MemPlace} (h : argSh P t s = true) (hw : Value.okWide P w r base t v) (hr : DataW.Trod enc P w 0 (fun _ => true) true t v d ps) (hwt : Lw P t d) : AtS w s v := by
 obtain ⟨fuel, hr⟩ := hr
 unfold argSh at h
 split at h
 ·rename_i fs ht
  split at h
  ·rename_i s l
   split at h
   ·rename_i ls hls
    simp only [yb] at h
    obtain ⟨cs, rfl, hsz⟩ := okWide_struct ht hw
    have hr' : trodR enc P w fuel t cs.toList = some (d, ps) := hr
    obtain ⟨d, hf, avs, hle, hlen, hvs⟩ := zhP (enc := enc) (w := w) (cs := cs.toList) h.2 fun q hq hq' => by
     obtain ⟨m, v, y, _, h1, h2, h3⟩ := zgd 8 hls hr' hwt q hq hq'
     exact ⟨m, v, y, h1, h2, h3⟩
    refine ⟨d, hf, .agg avs, ⟨avs, rfl, hle⟩, .agg avs cs (by rw [hlen, nb.1 h.1, hsz]) fun j y hy => ?_⟩
    obtain ⟨v, h1, h2⟩ := hvs j y hy
    rw [yy] at h1
    rw [ym, ← yo1, h1]
    exact h2
   ·cases h
  ·cases h
 ·cases h
 ·have hl := zgL h
  rw [zlm hl hw] at hr
  exact zgH h hr hwt
theorem zgN {r : Reach} {base : Nat} : ∀ {ts : List TypeId} {s : Sh} {vs : List Value} {ds : List (DataW H)} {ps : List MemPlace}, argsSh P ts s = true → (∀ (j : Nat) (t : TypeId) (v : Value), ts[j]? = some t → vs[j]? = some v → Value.okWide P w r base t v) →
  DataW.TrodAll enc P w 0 (fun _ => true) true ts vs ds ps → (∀ n ∈ DataW.weightsEach P ts ds, n ≤ reachBytes) → ∃ d : s.den, FitS s d ∧ ∃ as : List AV, LeS s as d ∧ VRs (Gst w) w as vs.toArray ∧ as.length = ts.length
 | [], s, vs, ds, ps, h, hw, hr, hwt => by
  unfold argsSh at h
  split at h
  ·obtain ⟨rfl, rfl, rfl⟩ := trodAll_nil hr
   exact ⟨(), trivial, [], rfl, VRs.nil, rfl⟩
  ·cases h
 | t :: ts, s, vs, ds, ps, h, hw, hr, hwt => by
  unfold argsSh at h
  split at h
  ·rename_i s a b
   rw [yb] at h
   obtain ⟨v, vs', d, ds', p, q, rfl, rfl, rfl, h1, h2⟩ := trodAll_cons hr
   obtain ⟨d, hf, av, hle, hv⟩ := znG h.1 (hw 0 t v rfl rfl) h1 (fun n hn => hwt n (by simp only [DataW.weightsEach, yl1]; exact .inl hn))
   obtain ⟨d2, hf2, as, hle2, hvs, hlen⟩ := zgN h.2 (fun j t v h1 h2 => hw (j + 1) t v (by simpa using h1) (by simpa using h2)) h2 (fun n hn => hwt n (by simp only [DataW.weightsEach, yl1]; exact .inr hn))
   refine ⟨P2.mk _ _ d d2, ⟨?_, ?_⟩, av :: as, ⟨av, as, rfl, ?_, ?_⟩, VRs.cons hv hvs, by simp [hlen]⟩
   ·exact Eq.mpr (congrArg (FitS a) (fst_mk d d2)) hf
   ·exact Eq.mpr (congrArg (FitS b) (snd_mk d d2)) hf2
   ·exact Eq.mpr (congrArg (LeS a [av]) (fst_mk d d2)) hle
   ·exact Eq.mpr (congrArg (LeS b as) (snd_mk d d2)) hle2
  ·cases h
theorem zep (hl : laidOutB P = true) {w' : World} (hb : Below w.heap.size w w') : ∀ {ts : List TypeId} {vs : List Value} {ds : List (DataW H)} {ps : List MemPlace}, (ts.all fun t => P.readableRec t && Nat.blt t P.types.size) = true →
  DataW.TrodAll enc P w 0 (fun _ => true) true ts vs ds ps → DataW.TrodAll enc P w' 0 (fun b => decide (b < w.heap.size)) true ts vs ds ps
 | [], vs, ds, ps, ht, hr => by
  obtain ⟨rfl, rfl, rfl⟩ := trodAll_nil hr
  exact trodAll_mk0
 | t :: ts, vs, ds, ps, ht, hr => by
  rw [yj3, yb, yb] at ht
  obtain ⟨v, vs', d, ds', p, q, rfl, rfl, rfl, h1, h2⟩ := trodAll_cons hr
  have hlt : ∀ x ∈ p, x.block < w.heap.size := by obtain ⟨m, hm⟩ := h1; exact DataW.trod_lt m _ _ _ hm
  exact trodAll_cons_mk (Below.trod hl ht.1.1 (Nat.blt_eq ▸ ht.1.2) h1 hb hlt) (zep hl hb ht.2 h2)
theorem zgP {sp : Nat → Bool} {held : Bool} {base : Nat} : ∀ {ts : List TypeId} {vs : List Value} {ds : List (DataW H)} {ps : List MemPlace}, DataW.TrodAll enc P w base sp held ts vs ds ps → vs.length = ts.length ∧ ds.length = ts.length
 | [], vs, ds, ps, hr => by
  obtain ⟨rfl, rfl, rfl⟩ := trodAll_nil hr
  exact ⟨rfl, rfl⟩
 | t :: ts, vs, ds, ps, hr => by
  obtain ⟨v, vs', d, ds', p, q, rfl, rfl, rfl, h1, h2⟩ := trodAll_cons hr
  have := zgP h2
  exact ⟨by simp [this.1], by simp [this.2]⟩
def rowSh (P : Program) (fn : Func) (sh : Sh) : Bool :=
 laidOutB P && argsSh P fn.params.toList sh && (fn.params.toList.all fun t => P.readableRec t && Nat.blt t P.types.size) &&
 (match fn.resultTypes.toList with | [t] => (match P.underlying t with | some .bool => true | _ => false) | _ => false)
theorem zdr (ts' : List TypeId) (ds' : List (DataW H)) : ∀ {ts : List TypeId} {ds : List (DataW H)}, ds.length = ts.length → ∀ n ∈ DataW.weightsEach P ts ds, n ∈ DataW.weightsEach P (ts ++ ts') (ds ++ ds')
 | [], [], _, n, hn => by simp [DataW.weightsEach] at hn
 | t :: ts, d :: ds, h, n, hn => by
  simp only [yv2, DataW.weightsEach, yl1] at hn ⊢
  exact hn.imp id (zdr ts' ds' (by simpa using h) n)
 | [], _ :: _, h, _, _ => by simp at h
 | _ :: _, [], h, _, _ => by simp at h
theorem zko {f : FuncId} {fn : Func} {s : ChangeSpec} {sh : Sh} (hrow : rowSh P fn sh = true) (hvars : s.vars = [])
  (hspec : ∀ ds : List (DataW H), ds.length = fn.params.size → s.fn H ds = { results := [.lit (.bool true)], args := ds })
  (hrun : ∀ d : sh.den, FitS sh d → ∀ (W : World) (as : List AV) (vargs : Array Value), GlobR (Gst W) W → LeS sh as d → as.length = fn.params.size → VRs (Gst W) W as vargs → Calls P f vargs W fun e W' => e = .returned (.bool true) ∧ Below W.heap.size W W')
  {W : World} (hg : GlobR (Gst W) W) {base : Nat} {args : Array Value} {ds gs : List (DataW H)} {before : List MemPlace}
  (hval : ∀ (j : Nat) t v, fn.params[j]? = some t → args[j]? = some v → Value.okWide P W .any base t v) (hW : DataW.Whole enc P fn.params.toList s.vars false W args.toList ds gs before)
  (hsz : (DataW.weightsEach P (fn.params.toList ++ s.plain.varTypes P) (ds ++ gs)).all (· ≤ reachBytes) = true) :
  Calls P f args W fun e W' => ∃ v, e = .returned v ∧ s.post enc P fn false true false false W args v W' := by
 unfold rowSh at hrow
 simp only [yb] at hrow
 obtain ⟨⟨⟨hl, hargs⟩, hread⟩, hres⟩ := hrow
 have hW' := hW
 obtain ⟨p, q, hA, hV, rfl, hfz, hnd⟩ := hW
 rw [hvars] at hV
 obtain ⟨rfl, rfl⟩ := trodVars_none hV
 have hlens := zgP hA
 have hwt : ∀ n ∈ DataW.weightsEach P fn.params.toList ds, n ≤ reachBytes := by
  intro n hn
  have := yo2.1 hsz n (zdr _ _ hlens.2 n hn)
  simpa using this
 obtain ⟨d, hf, as, hle, hvr, hlen⟩ := zgN hargs (fun j t v h1 h2 => hval j t v (by rw [← yo1]; exact h1) (by rw [← yo1]; exact h2)) hA hwt
 refine (hrun d hf W as args hg hle (by rw [hlen, yt1]) (by simpa using hvr)).mono fun e W' he => ?_
 obtain ⟨rfl, hb⟩ := he
 have hsp := hspec ds (by rw [hlens.2, yt1])
 have hrt : ∃ t, fn.resultTypes = #[t] ∧ P.underlying t = some .bool := by
  split at hres
  ·rename_i t ht
   split at hres
   ·rename_i hu
    exact ⟨t, by cases hr : fn.resultTypes; simp_all, hu⟩
   ·cases hres
  ·cases hres
 obtain ⟨t, hrt, hu⟩ := hrt
 refine ⟨_, rfl, ds, [], p ++ [], [], p, [], hW', ?_, ?_, ?_, hb.frame _, fun h => by cases h⟩
 ·rw [yh1, hsp, hrt]
  exact trodAll_mk1 (shut_bool hu _)
 ·rw [yh1, hsp]
  exact zep hl hb hread hA
 ·rw [yh1, hsp, hvars]
  rfl
end
end Go.Ab
