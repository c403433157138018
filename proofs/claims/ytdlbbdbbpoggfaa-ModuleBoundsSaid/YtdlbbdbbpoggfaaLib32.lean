import Derived.Test.YtdlbbdbbpoggfaaLib31
import Derived.OpenShut
import Derived.ShutString
import Derived.ChangeOld
import Derived.Below
import Derived.Carry
set_option linter.unusedVariables false
set_option linter.unusedSectionVars false
set_option linter.unusedSimpArgs false
namespace Go.Ab
variable [b4]
open Go.RowKit Go.ChangeShapes Go.WideShapes
variable {P : Program} {H : Type} {enc : TypeId × Value → H} {w : World}
noncomputable section
def PQ : Sh → Option Ty
 | .int k => some (.int k)
 | .bool => some .bool
 | .str => some .str
 | .sl β ag T => bif β then some (.sl ag T) else none
 | _ => none
def BI (P : Program) (t : TypeId) (s : Sh) : Bool := match PQ s with
 | some T => A5 P (Mz P 8) t T
 | none => false
def Jg (P : Program) : Nat → List (Nat × TypeId) → Sh → Bool
 | _, [], s => (match s with | .nil => true | _ => false)
 | n, q :: r, s => (match s with | .cons a b => Nat.beq q.1 n && BI P q.2 a && Jg P (n + 1) r b | _ => false)
def Oc (P : Program) (t : TypeId) (s : Sh) : Bool := match P.underlying t with
 | some (.struct _) => (match s with
  | .agg l => (match IJ P 8 t with | some ls => Nat.beq ls.length (P.cellsOf t) && Jg P 0 ls l | none => false)
  | _ => false)
 | some (.array _ _) => false
 | _ => BI P t s
def D9 (P : Program) : List TypeId → Sh → Bool
 | [], s => (match s with | .nil => true | _ => false)
 | t :: ts, s => (match s with | .cons a b => Oc P t a && D9 P ts b | _ => false)
def CL : (s : Sh) → s.den → Prop
 | .int k, x => (Lit.int k x).wf = true
 | .str, x => ByteArray.size x ≤ reachBytes
 | .sl _ ag T, xs => O6 (.sl ag T) xs
 | .agg l, p => CL l p
 | .cons a b, p => CL a (P2.fst a.dflt a.un b.un p) ∧ CL b (P2.snd b.dflt a.un b.un p)
 | _, _ => True
def Qa (w : World) (s : Sh) (v : Value) : Prop := ∃ d : s.den, CL s d ∧ ∃ av, lC s [av] d ∧ VR (J9 w) w av v
theorem Ir {s : Sh} {T : Ty} {v : Value} (hs : PQ s = some T) (h : Ej w T v) : Qa w s v := by
 obtain ⟨x, K, p, I, ho, hr⟩ := h
 cases s with
 | int k =>
  obtain rfl := ya hs
  have I := (yx I).1
  subst I
  cases hr
  exact ⟨x, K, _, rfl, .lit _ rfl⟩
 | bool =>
  obtain rfl := ya hs
  have I := (yx I).1
  subst I
  cases hr
  exact ⟨x, trivial, _, rfl, .lit _ rfl⟩
 | str =>
  obtain rfl := ya hs
  have I := (yx I).1
  subst I
  cases hr
  exact ⟨x, K, _, rfl, .lit _ rfl⟩
 | sl β ag J =>
  cases β with
  | false => cases hs
  | true =>
   obtain rfl := ya hs
   have I : p = dL ag J x := ((yx I).1).symm
   subst I
   exact ⟨x, K, .imm true (dL ag J x), .inl ⟨true, fun _ => rfl, rfl⟩, .imm true _ v hr (qX ag J x)⟩
 | _ => cases hs
theorem Ck {t : TypeId} {s : Sh} (h : BI P t s = true) : wB P t := by
 unfold BI at h
 split at h
 ·exact Cd h
 ·cases h
theorem Cy {t : TypeId} {s : Sh} {fuel : Nat} {v : Value} {y : DataW H × List MemPlace} (h : BI P t s = true) (hr : rB enc P w fuel t [v] = some y) (J : Lw P t y.1) : Qa w s v := by
 unfold BI at h
 split at h
 ·rename_i T hT
  exact Ir hT (Gq (enc := enc) (rd := Mz P 8) (fuel := fuel) (fun m t T cs x _ I K M => M7 m 8 t T cs x I K M) t T v h ⟨fuel, y, yy _, hr, J⟩)
 ·cases h
theorem Fg {cs : List Value} : ∀ {ls : List (Nat × TypeId)} {n : Nat} {s : Sh}, Jg P n ls s = true → (∀ q ∈ ls, wB P q.2 → ∃ m v y, cs[q.1]? = some v ∧ rB enc P w m q.2 [v] = some y ∧ Lw P q.2 y.1) →
  ∃ d : s.den, CL s d ∧ ∃ avs : List AV, lC s avs d ∧ avs.length = ls.length ∧ ∀ (j : Nat) (a : AV), avs[j]? = some a → ∃ v, cs[n + j]? = some v ∧ VR (J9 w) w a v
 | [], n, s, h, hr => by
  unfold Jg at h
  split at h
  ·exact ⟨(), trivial, [], rfl, rfl, fun j a J => by simp at J⟩
  ·cases h
 | q :: r, n, s, h, hr => by
  unfold Jg at h
  split at h
  ·rename_i s a b
   simp only [yb] at h
   obtain ⟨m, v, y, Z, hy, U⟩ := hr q (ym ..) (Ck h.1.2)
   obtain ⟨d, hf, W, Y, O⟩ := Cy h.1.2 hy U
   obtain ⟨I, V, avs, K, M, N⟩ := Fg h.2 fun q hq => hr q (yh _ hq)
   refine ⟨P2.mk _ _ d I, ⟨?_, ?_⟩, W :: avs, ⟨W, avs, rfl, ?_, ?_⟩, by simp [M], fun j a J => ?_⟩
   ·exact Eq.mpr (congrArg (CL a) (fst_mk d I)) hf
   ·exact Eq.mpr (congrArg (CL b) (snd_mk d I)) V
   ·exact Eq.mpr (congrArg (lC a [W]) (fst_mk d I)) Y
   ·exact Eq.mpr (congrArg (lC b avs) (snd_mk d I)) K
   ·cases j with
    | zero =>
     simp at J; subst J
     rw [nb.1 h.1.1] at Z
     exact ⟨v, Z, O⟩
    | succ j =>
     obtain ⟨v', h1, h2⟩ := N j a (by simpa using J)
     exact ⟨v', by rw [show n + (j + 1) = n + 1 + j by omega]; exact h1, h2⟩
  ·cases h
theorem IF {t : TypeId} {v : Value} {r : Reach} {base : Nat} (I : wB P t) (h : Value.okWide P w r base t v) : v.cells.toList = [v] := by
 rcases I with ⟨k, ht⟩ | ht | ht | ⟨e, ht⟩ <;> simp only [Value.okWide, ht, Cell.okWide] at h <;> cases v <;> simp_all [Cell.ok, Value.cells]
theorem KT {t : TypeId} {s : Sh} {v : Value} {r : Reach} {base : Nat} {d : DataW H} {ps : List MemPlace} (h : Oc P t s = true) (Z : Value.okWide P w r base t v) (hr : DataW.Trod enc P w 0 (fun _ => true) true t v d ps) (I : Lw P t d) : Qa w s v := by
 obtain ⟨fuel, hr⟩ := hr
 unfold Oc at h
 split at h
 ·rename_i fs ht
  split at h
  ·rename_i s l
   split at h
   ·rename_i ls V
    simp only [yb] at h
    obtain ⟨cs, rfl, Y⟩ := okWide_struct ht Z
    have N : rB enc P w fuel t cs.toList = some (d, ps) := hr
    obtain ⟨d, hf, avs, W, J, M⟩ := Fg (enc := enc) (w := w) (cs := cs.toList) h.2 fun q hq O => by
     obtain ⟨m, v, y, _, K, U, h3⟩ := Bc 8 V N I q hq O
     exact ⟨m, v, y, K, U, h3⟩
    refine ⟨d, hf, .agg avs, ⟨avs, rfl, W⟩, .agg avs cs (by rw [J, nb.1 h.1, Y]) fun j y hy => ?_⟩
    obtain ⟨v, K, U⟩ := M j y hy
    rw [yc1] at K
    rw [yj, ← yp1, K]
    exact U
   ·cases h
  ·cases h
 ·cases h
 ·have hl := Ck h
  rw [IF hl Z] at hr
  exact Cy h hr I
theorem CE {r : Reach} {base : Nat} : ∀ {ts : List TypeId} {s : Sh} {vs : List Value} {N : List (DataW H)} {ps : List MemPlace}, D9 P ts s = true → (∀ (j : Nat) (t : TypeId) (v : Value), ts[j]? = some t → vs[j]? = some v → Value.okWide P w r base t v) →
  DataW.TrodAll enc P w 0 (fun _ => true) true ts vs N ps → (∀ n ∈ DataW.weightsEach P ts N, n ≤ reachBytes) → ∃ d : s.den, CL s d ∧ ∃ as : List AV, lC s as d ∧ m8 (J9 w) w as vs.toArray ∧ as.length = ts.length
 | [], s, vs, N, ps, h, Z, hr, I => by
  unfold D9 at h
  split at h
  ·obtain ⟨rfl, rfl, rfl⟩ := trodAll_nil hr
   exact ⟨(), trivial, [], rfl, m8.nil, rfl⟩
  ·cases h
 | t :: ts, s, vs, N, ps, h, Z, hr, I => by
  unfold D9 at h
  split at h
  ·rename_i s a b
   rw [yb] at h
   obtain ⟨v, vs', d, ds', p, q, rfl, rfl, rfl, U, W⟩ := trodAll_cons hr
   obtain ⟨d, hf, Y, hle, hv⟩ := KT h.1 (Z 0 t v rfl rfl) U (fun n hn => I n (by simp only [DataW.weightsEach, yo1]; exact .inl hn))
   obtain ⟨J, V, as, K, O, M⟩ := CE h.2 (fun j t v U W => Z (j + 1) t v (by simpa using U) (by simpa using W)) W (fun n hn => I n (by simp only [DataW.weightsEach, yo1]; exact .inr hn))
   refine ⟨P2.mk _ _ d J, ⟨?_, ?_⟩, Y :: as, ⟨Y, as, rfl, ?_, ?_⟩, m8.cons hv O, by simp [M]⟩
   ·exact Eq.mpr (congrArg (CL a) (fst_mk d J)) hf
   ·exact Eq.mpr (congrArg (CL b) (snd_mk d J)) V
   ·exact Eq.mpr (congrArg (lC a [Y]) (fst_mk d J)) hle
   ·exact Eq.mpr (congrArg (lC b as) (snd_mk d J)) K
  ·cases h
theorem wZ (N : laidOutB P = true) {O : World} (K : Below w.heap.size w O) : ∀ {ts : List TypeId} {vs : List Value} {I : List (DataW H)} {ps : List MemPlace}, (ts.all fun t => P.readableRec t && Nat.blt t P.types.size) = true →
  DataW.TrodAll enc P w 0 (fun _ => true) true ts vs I ps → DataW.TrodAll enc P O 0 (fun b => decide (b < w.heap.size)) true ts vs I ps
 | [], vs, I, ps, ht, hr => by
  obtain ⟨rfl, rfl, rfl⟩ := trodAll_nil hr
  exact trodAll_mk0
 | t :: ts, vs, I, ps, ht, hr => by
  rw [yh3, yb, yb] at ht
  obtain ⟨v, U, d, V, p, q, rfl, rfl, rfl, M, W⟩ := trodAll_cons hr
  have J : ∀ x ∈ p, x.block < w.heap.size := by obtain ⟨m, hm⟩ := M; exact DataW.trod_lt m _ _ _ hm
  exact trodAll_cons_mk (Below.trod N ht.1.1 (Nat.blt_eq ▸ ht.1.2) M K J) (wZ N K ht.2 W)
theorem Co {M : Nat → Bool} {I : Bool} {base : Nat} : ∀ {ts : List TypeId} {vs : List Value} {J : List (DataW H)} {ps : List MemPlace}, DataW.TrodAll enc P w base M I ts vs J ps → vs.length = ts.length ∧ J.length = ts.length
 | [], vs, J, ps, hr => by
  obtain ⟨rfl, rfl, rfl⟩ := trodAll_nil hr
  exact ⟨rfl, rfl⟩
 | t :: ts, vs, J, ps, hr => by
  obtain ⟨v, O, d, K, p, q, rfl, rfl, rfl, h1, N⟩ := trodAll_cons hr
  have := Co N
  exact ⟨by simp [this.1], by simp [this.2]⟩
def Oh (P : Program) (fn : Func) (sh : Sh) : Bool :=
 laidOutB P && D9 P fn.params.toList sh && (fn.params.toList.all fun t => P.readableRec t && Nat.blt t P.types.size) &&
 (match fn.resultTypes.toList with | [t] => (match P.underlying t with | some .bool => true | _ => false) | _ => false)
theorem rF (J : List TypeId) (I : List (DataW H)) : ∀ {ts : List TypeId} {K : List (DataW H)}, K.length = ts.length → ∀ n ∈ DataW.weightsEach P ts K, n ∈ DataW.weightsEach P (ts ++ J) (K ++ I)
 | [], [], _, n, hn => by simp [DataW.weightsEach] at hn
 | t :: ts, d :: K, h, n, hn => by
  simp only [yp2, DataW.weightsEach, yo1] at hn ⊢
  exact hn.imp id (rF J I (by simpa using h) n)
 | [], _ :: _, h, _, _ => by simp at h
 | _ :: _, [], h, _, _ => by simp at h
theorem Hv {f : FuncId} {fn : Func} {s : ChangeSpec} {sh : Sh} (N : Oh P fn sh = true) (K : s.vars = [])
  (V : ∀ O : List (DataW H), O.length = fn.params.size → s.fn H O = { results := [.lit (.bool true)], args := O })
  (hrun : ∀ d : sh.den, CL sh d → ∀ (W : World) (as : List AV) (M : Array Value), rI (J9 W) W → lC sh as d → as.length = fn.params.size → m8 (J9 W) W as M → Calls P f M W fun e W' => e = .returned (.bool true) ∧ Below W.heap.size W W')
  {W : World} (hg : rI (J9 W) W) {base : Nat} {args : Array Value} {O gs : List (DataW H)} {U : List MemPlace}
  (hval : ∀ (j : Nat) t v, fn.params[j]? = some t → args[j]? = some v → Value.okWide P W .any base t v) (hW : DataW.Whole enc P fn.params.toList s.vars false W args.toList O gs U)
  (hsz : (DataW.weightsEach P (fn.params.toList ++ s.plain.varTypes P) (O ++ gs)).all (· ≤ reachBytes) = true) :
  Calls P f args W fun e W' => ∃ v, e = .returned v ∧ s.post enc P fn false true false false W args v W' := by
 unfold Oh at N
 simp only [yb] at N
 obtain ⟨⟨⟨hl, hargs⟩, Z⟩, I⟩ := N
 have hW' := hW
 obtain ⟨p, q, hA, hV, rfl, hfz, hnd⟩ := hW
 rw [K] at hV
 obtain ⟨rfl, rfl⟩ := trodVars_none hV
 have J := Co hA
 have hwt : ∀ n ∈ DataW.weightsEach P fn.params.toList O, n ≤ reachBytes := by
  intro n hn
  have := yr1.1 hsz n (rF _ _ J.2 n hn)
  simpa using this
 obtain ⟨d, hf, as, hle, hvr, hlen⟩ := CE hargs (fun j t v h1 h2 => hval j t v (by rw [← yp1]; exact h1) (by rw [← yp1]; exact h2)) hA hwt
 refine (hrun d hf W as args hg hle (by rw [hlen, yu1]) (by simpa using hvr)).mono fun e W' he => ?_
 obtain ⟨rfl, hb⟩ := he
 have hsp := V O (by rw [J.2, yu1])
 have Y : ∃ t, fn.resultTypes = #[t] ∧ P.underlying t = some .bool := by
  split at I
  ·rename_i t ht
   split at I
   ·rename_i hu
    exact ⟨t, by cases hr : fn.resultTypes; simp_all, hu⟩
   ·cases I
  ·cases I
 obtain ⟨t, Y, hu⟩ := Y
 refine ⟨_, rfl, O, [], p ++ [], [], p, [], hW', ?_, ?_, ?_, hb.frame _, fun h => by cases h⟩
 ·rw [yg1, hsp, Y]
  exact trodAll_mk1 (shut_bool hu _)
 ·rw [yg1, hsp]
  exact wZ hl hb Z hA
 ·rw [yg1, hsp, K]
  rfl
end
end Go.Ab
