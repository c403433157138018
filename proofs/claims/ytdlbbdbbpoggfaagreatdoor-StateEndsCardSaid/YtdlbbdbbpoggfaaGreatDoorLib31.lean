import Derived.Test.YtdlbbdbbpoggfaaGreatDoorLib30
import Derived.OpenShut
import Derived.ShutString
import Derived.ChangeOld
import Derived.Below
import Derived.Carry
set_option linter.unusedVariables false
set_option linter.unusedSectionVars false
set_option linter.unusedSimpArgs false
namespace Go.Ab
variable [cD]
open Go.RowKit Go.ChangeShapes Go.WideShapes
variable {P : Program} {H : Type} {enc : TypeId × Value → H} {w : World}
noncomputable section
def P7 : Sh → Option Ty
 | .int k => some (.int k)
 | .bool => some .bool
 | .str => some .str
 | .sl β ag T => bif β then some (.sl ag T) else none
 | _ => none
def A1 (P : Program) (t : TypeId) (s : Sh) : Bool := match P7 s with
 | some T => AB P (Lj P 8) t T
 | none => false
def I6 (P : Program) : Nat → List (Nat × TypeId) → Sh → Bool
 | _, [], s => (match s with | .nil => true | _ => false)
 | n, q :: r, s => (match s with | .cons a b => Nat.beq q.1 n && A1 P q.2 a && I6 P (n + 1) r b | _ => false)
def NC (P : Program) (t : TypeId) (s : Sh) : Bool := match P.underlying t with
 | some (.struct _) => (match s with
  | .agg l => (match Iw P 8 t with | some ls => Nat.beq ls.length (P.cellsOf t) && I6 P 0 ls l | none => false)
  | _ => false)
 | some (.array _ _) => false
 | _ => A1 P t s
def CP (P : Program) : List TypeId → Sh → Bool
 | [], s => (match s with | .nil => true | _ => false)
 | t :: ts, s => (match s with | .cons a b => NC P t a && CP P ts b | _ => false)
def lY : (s : Sh) → s.den → Prop
 | .int k, x => (Lit.int k x).wf = true
 | .str, x => ByteArray.size x ≤ reachBytes
 | .sl _ ag T, xs => kU (.sl ag T) xs
 | .agg l, p => lY l p
 | .cons a b, p => lY a (P2.fst a.dflt a.un b.un p) ∧ lY b (P2.snd b.dflt a.un b.un p)
 | _, _ => True
def Qs (w : World) (s : Sh) (v : Value) : Prop := ∃ d : s.den, lY s d ∧ ∃ av, mL s [av] d ∧ VR (F7 w) w av v
theorem Im {s : Sh} {T : Ty} {v : Value} (A : P7 s = some T) (h : CQ w T v) : Qs w s v := by
 obtain ⟨x, hf, p, z, ho, J⟩ := h
 cases s with
 | int k =>
  obtain rfl := yb A
  have z := (yc1 z).1
  subst z
  cases J
  exact ⟨x, hf, _, rfl, .lit _ rfl⟩
 | bool =>
  obtain rfl := yb A
  have z := (yc1 z).1
  subst z
  cases J
  exact ⟨x, trivial, _, rfl, .lit _ rfl⟩
 | str =>
  obtain rfl := yb A
  have z := (yc1 z).1
  subst z
  cases J
  exact ⟨x, hf, _, rfl, .lit _ rfl⟩
 | sl β ag K =>
  cases β with
  | false => cases A
  | true =>
   obtain rfl := yb A
   have z : p = iB ag K x := ((yc1 z).1).symm
   subst z
   exact ⟨x, hf, .imm true (iB ag K x), .inl ⟨true, fun _ => rfl, rfl⟩, .imm true _ v J (pT ag K x)⟩
 | _ => cases A
theorem BC {t : TypeId} {s : Sh} (h : A1 P t s = true) : sT P t := by
 unfold A1 at h
 split at h
 ·exact Bq h
 ·cases h
theorem BM {t : TypeId} {s : Sh} {fuel : Nat} {v : Value} {y : DataW H × List MemPlace} (h : A1 P t s = true) (J : qC enc P w fuel t [v] = some y) (z : Lw P t y.1) : Qs w s v := by
 unfold A1 at h
 split at h
 ·rename_i T hT
  exact Im hT (FH (enc := enc) (rd := Lj P 8) (fuel := fuel) (fun m t T cs x _ h1 h2 A => Lt m 8 t T cs x h1 h2 A) t T v h ⟨fuel, y, yz _, J, z⟩)
 ·cases h
theorem C3 {cs : List Value} : ∀ {V : List (Nat × TypeId)} {n : Nat} {s : Sh}, I6 P n V s = true → (∀ q ∈ V, sT P q.2 → ∃ m v y, cs[q.1]? = some v ∧ qC enc P w m q.2 [v] = some y ∧ Lw P q.2 y.1) →
  ∃ d : s.den, lY s d ∧ ∃ avs : List AV, mL s avs d ∧ avs.length = V.length ∧ ∀ (j : Nat) (a : AV), avs[j]? = some a → ∃ v, cs[n + j]? = some v ∧ VR (F7 w) w a v
 | [], n, s, h, U => by
  unfold I6 at h
  split at h
  ·exact ⟨(), trivial, [], rfl, rfl, fun j a A => by simp at A⟩
  ·cases h
 | q :: r, n, s, h, U => by
  unfold I6 at h
  split at h
  ·rename_i s a b
   simp only [yc] at h
   obtain ⟨m, v, y, hv, hy, Y⟩ := U q (yn ..) (BC h.1.2)
   obtain ⟨d, hf, M, N, O⟩ := BM h.1.2 hy Y
   obtain ⟨K, W, avs, J, z, Z⟩ := C3 h.2 fun q hq => U q (yk _ hq)
   refine ⟨P2.mk _ _ d K, ⟨?_, ?_⟩, M :: avs, ⟨M, avs, rfl, ?_, ?_⟩, by simp [z], fun j a A => ?_⟩
   ·exact Eq.mpr (congrArg (lY a) (fst_mk d K)) hf
   ·exact Eq.mpr (congrArg (lY b) (snd_mk d K)) W
   ·exact Eq.mpr (congrArg (mL a [M]) (fst_mk d K)) N
   ·exact Eq.mpr (congrArg (mL b avs) (snd_mk d K)) J
   ·cases j with
    | zero =>
     simp at A; subst A
     rw [nb.1 h.1.1] at hv
     exact ⟨v, hv, O⟩
    | succ j =>
     obtain ⟨v', h1, h2⟩ := Z j a (by simpa using A)
     exact ⟨v', by rw [show n + (j + 1) = n + 1 + j by omega]; exact h1, h2⟩
  ·cases h
theorem H6 {t : TypeId} {v : Value} {r : Reach} {base : Nat} (hl : sT P t) (h : Value.okWide P w r base t v) : v.cells.toList = [v] := by
 rcases hl with ⟨k, ht⟩ | ht | ht | ⟨e, ht⟩ <;> simp only [Value.okWide, ht, Cell.okWide] at h <;> cases v <;> simp_all [Cell.ok, Value.cells]
theorem Ka {t : TypeId} {s : Sh} {v : Value} {r : Reach} {base : Nat} {d : DataW H} {ps : List MemPlace} (h : NC P t s = true) (W : Value.okWide P w r base t v) (J : DataW.Trod enc P w 0 (fun _ => true) true t v d ps) (A : Lw P t d) : Qs w s v := by
 obtain ⟨fuel, J⟩ := J
 unfold NC at h
 split at h
 ·rename_i fs ht
  split at h
  ·rename_i s l
   split at h
   ·rename_i ls O
    simp only [yc] at h
    obtain ⟨cs, rfl, N⟩ := okWide_struct ht W
    have U : qC enc P w fuel t cs.toList = some (d, ps) := J
    obtain ⟨d, hf, avs, M, z, K⟩ := C3 (enc := enc) (w := w) (cs := cs.toList) h.2 fun q Z V => by
     obtain ⟨m, v, y, _, h1, h2, h3⟩ := Aq 8 O U A q Z V
     exact ⟨m, v, y, h1, h2, h3⟩
    refine ⟨d, hf, .agg avs, ⟨avs, rfl, M⟩, .agg avs cs (by rw [z, nb.1 h.1, N]) fun j y Y => ?_⟩
    obtain ⟨v, h1, h2⟩ := K j y Y
    rw [yj1] at h1
    rw [ym, ← yk1, h1]
    exact h2
   ·cases h
  ·cases h
 ·cases h
 ·have hl := BC h
  rw [H6 hl W] at J
  exact BM h J A
theorem Bn {r : Reach} {base : Nat} : ∀ {ts : List TypeId} {s : Sh} {vs : List Value} {M : List (DataW H)} {ps : List MemPlace}, CP P ts s = true → (∀ (j : Nat) (t : TypeId) (v : Value), ts[j]? = some t → vs[j]? = some v → Value.okWide P w r base t v) →
  DataW.TrodAll enc P w 0 (fun _ => true) true ts vs M ps → (∀ n ∈ DataW.weightsEach P ts M, n ≤ reachBytes) → ∃ d : s.den, lY s d ∧ ∃ as : List AV, mL s as d ∧ pX (F7 w) w as vs.toArray ∧ as.length = ts.length
 | [], s, vs, M, ps, h, O, V, z => by
  unfold CP at h
  split at h
  ·obtain ⟨rfl, rfl, rfl⟩ := trodAll_nil V
   exact ⟨(), trivial, [], rfl, pX.nil, rfl⟩
  ·cases h
 | t :: ts, s, vs, M, ps, h, O, V, z => by
  unfold CP at h
  split at h
  ·rename_i s a b
   rw [yc] at h
   obtain ⟨v, Z, d, ds', p, q, rfl, rfl, rfl, h1, h2⟩ := trodAll_cons V
   obtain ⟨d, hf, N, U, hv⟩ := Ka h.1 (O 0 t v rfl rfl) h1 (fun n hn => z n (by simp only [DataW.weightsEach, yb2]; exact .inl hn))
   obtain ⟨K, W, as, J, Y, A⟩ := Bn h.2 (fun j t v h1 h2 => O (j + 1) t v (by simpa using h1) (by simpa using h2)) h2 (fun n hn => z n (by simp only [DataW.weightsEach, yb2]; exact .inr hn))
   refine ⟨P2.mk _ _ d K, ⟨?_, ?_⟩, N :: as, ⟨N, as, rfl, ?_, ?_⟩, pX.cons hv Y, by simp [A]⟩
   ·exact Eq.mpr (congrArg (lY a) (fst_mk d K)) hf
   ·exact Eq.mpr (congrArg (lY b) (snd_mk d K)) W
   ·exact Eq.mpr (congrArg (mL a [N]) (fst_mk d K)) U
   ·exact Eq.mpr (congrArg (mL b as) (snd_mk d K)) J
  ·cases h
theorem vI (hl : laidOutB P = true) {K : World} (J : Below w.heap.size w K) : ∀ {ts : List TypeId} {vs : List Value} {h : List (DataW H)} {ps : List MemPlace}, (ts.all fun t => P.readableRec t && Nat.blt t P.types.size) = true →
  DataW.TrodAll enc P w 0 (fun _ => true) true ts vs h ps → DataW.TrodAll enc P K 0 (fun b => decide (b < w.heap.size)) true ts vs h ps
 | [], vs, h, ps, ht, A => by
  obtain ⟨rfl, rfl, rfl⟩ := trodAll_nil A
  exact trodAll_mk0
 | t :: ts, vs, h, ps, ht, A => by
  rw [ye3, yc, yc] at ht
  obtain ⟨v, M, d, N, p, q, rfl, rfl, rfl, h1, h2⟩ := trodAll_cons A
  have z : ∀ x ∈ p, x.block < w.heap.size := by obtain ⟨m, hm⟩ := h1; exact DataW.trod_lt m _ _ _ hm
  exact trodAll_cons_mk (Below.trod hl ht.1.1 (Nat.blt_eq ▸ ht.1.2) h1 J z) (vI hl J ht.2 h2)
theorem Br {M : Nat → Bool} {h : Bool} {base : Nat} : ∀ {ts : List TypeId} {vs : List Value} {z : List (DataW H)} {ps : List MemPlace}, DataW.TrodAll enc P w base M h ts vs z ps → vs.length = ts.length ∧ z.length = ts.length
 | [], vs, z, ps, A => by
  obtain ⟨rfl, rfl, rfl⟩ := trodAll_nil A
  exact ⟨rfl, rfl⟩
 | t :: ts, vs, z, ps, A => by
  obtain ⟨v, J, d, K, p, q, rfl, rfl, rfl, h1, h2⟩ := trodAll_cons A
  have := Br h2
  exact ⟨by simp [this.1], by simp [this.2]⟩
def HT (P : Program) (fn : Func) (sh : Sh) : Bool :=
 laidOutB P && CP P fn.params.toList sh && (fn.params.toList.all fun t => P.readableRec t && Nat.blt t P.types.size) &&
 (match fn.resultTypes.toList with | [t] => (match P.underlying t with | some .bool => true | _ => false) | _ => false)
theorem qD (A : List TypeId) (z : List (DataW H)) : ∀ {ts : List TypeId} {J : List (DataW H)}, J.length = ts.length → ∀ n ∈ DataW.weightsEach P ts J, n ∈ DataW.weightsEach P (ts ++ A) (J ++ z)
 | [], [], _, n, hn => by simp [DataW.weightsEach] at hn
 | t :: ts, d :: J, h, n, hn => by
  simp only [yp3, DataW.weightsEach, yb2] at hn ⊢
  exact hn.imp id (qD A z (by simpa using h) n)
 | [], _ :: _, h, _, _ => by simp at h
 | _ :: _, [], h, _, _ => by simp at h
theorem pU {f : FuncId} {fn : Func} {s : ChangeSpec} {sh : Sh} (K : HT P fn sh = true) (A : s.vars = [])
  (U : ∀ O : List (DataW H), O.length = fn.params.size → s.fn H O = { results := [.lit (.bool true)], args := O })
  (hrun : ∀ d : sh.den, lY sh d → ∀ (W : World) (as : List AV) (J : Array Value), oS (F7 W) W → mL sh as d → as.length = fn.params.size → pX (F7 W) W as J → Calls P f J W fun e W' => e = .returned (.bool true) ∧ Below W.heap.size W W')
  {W : World} (hg : oS (F7 W) W) {base : Nat} {args : Array Value} {O gs : List (DataW H)} {N : List MemPlace}
  (hval : ∀ (j : Nat) t v, fn.params[j]? = some t → args[j]? = some v → Value.okWide P W .any base t v) (hW : DataW.Whole enc P fn.params.toList s.vars false W args.toList O gs N)
  (hsz : (DataW.weightsEach P (fn.params.toList ++ s.plain.varTypes P) (O ++ gs)).all (· ≤ reachBytes) = true) :
  Calls P f args W fun e W' => ∃ v, e = .returned v ∧ s.post enc P fn false true false false W args v W' := by
 unfold HT at K
 simp only [yc] at K
 obtain ⟨⟨⟨hl, V⟩, hread⟩, z⟩ := K
 have hW' := hW
 obtain ⟨p, q, hA, hV, rfl, hfz, hnd⟩ := hW
 rw [A] at hV
 obtain ⟨rfl, rfl⟩ := trodVars_none hV
 have M := Br hA
 have hwt : ∀ n ∈ DataW.weightsEach P fn.params.toList O, n ≤ reachBytes := by
  intro n hn
  have := yx.1 hsz n (qD _ _ M.2 n hn)
  simpa using this
 obtain ⟨d, hf, as, hle, hvr, hlen⟩ := Bn V (fun j t v h1 h2 => hval j t v (by rw [← yk1]; exact h1) (by rw [← yk1]; exact h2)) hA hwt
 refine (hrun d hf W as args hg hle (by rw [hlen, yv1]) (by simpa using hvr)).mono fun e W' he => ?_
 obtain ⟨rfl, hb⟩ := he
 have Y := U O (by rw [M.2, yv1])
 have Z : ∃ t, fn.resultTypes = #[t] ∧ P.underlying t = some .bool := by
  split at z
  ·rename_i t ht
   split at z
   ·rename_i hu
    exact ⟨t, by cases hr : fn.resultTypes; simp_all, hu⟩
   ·cases z
  ·cases z
 obtain ⟨t, Z, hu⟩ := Z
 refine ⟨_, rfl, O, [], p ++ [], [], p, [], hW', ?_, ?_, ?_, hb.frame _, fun h => by cases h⟩
 ·rw [yu1, Y, Z]
  exact trodAll_mk1 (shut_bool hu _)
 ·rw [yu1, Y]
  exact vI hl hb hread hA
 ·rw [yu1, Y, A]
  rfl
end
end Go.Ab
