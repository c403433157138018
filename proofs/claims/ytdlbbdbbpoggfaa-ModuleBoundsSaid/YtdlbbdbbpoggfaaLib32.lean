import Derived.Test.YtdlbbdbbpoggfaaLib31
import Derived.OpenShut
import Derived.ShutString
import Derived.ChangeOld
import Derived.Below
import Derived.Carry
set_option linter.unusedVariables false
set_option linter.unusedSectionVars false
set_option linter.unusedSimpArgs false
namespace Go.Ab
variable [b4]
open Go.RowKit Go.ChangeShapes Go.WideShapes
variable {P : Program} {H : Type} {enc : TypeId × Value → H} {w : World}
noncomputable section
def PL : Sh → Option Ty
 | .int k => some (.int k)
 | .bool => some .bool
 | .str => some .str
 | .sl β ag T => bif β then some (.sl ag T) else none
 | _ => none
def Be (P : Program) (t : TypeId) (s : Sh) : Bool := match PL s with
 | some T => BJ P (MD P 8) t T
 | none => false
def JW (P : Program) : Nat → List (Nat × TypeId) → Sh → Bool
 | _, [], s => (match s with | .nil => true | _ => false)
 | n, q :: r, s => (match s with | .cons a b => Nat.beq q.1 n && Be P q.2 a && JW P (n + 1) r b | _ => false)
def Nj (P : Program) (t : TypeId) (s : Sh) : Bool := match P.underlying t with
 | some (.struct _) => (match s with
  | .agg l => (match Js P 8 t with | some ls => Nat.beq ls.length (P.cellsOf t) && JW P 0 ls l | none => false)
  | _ => false)
 | some (.array _ _) => false
 | _ => Be P t s
def Dz (P : Program) : List TypeId → Sh → Bool
 | [], s => (match s with | .nil => true | _ => false)
 | t :: ts, s => (match s with | .cons a b => Nj P t a && Dz P ts b | _ => false)
def CV : (s : Sh) → s.den → Prop
 | .int k, x => (Lit.int k x).wf = true
 | .str, x => ByteArray.size x ≤ reachBytes
 | .sl _ ag T, xs => O2 (.sl ag T) xs
 | .agg l, p => CV l p
 | .cons a b, p => CV a (P2.fst a.dflt a.un b.un p) ∧ CV b (P2.snd b.dflt a.un b.un p)
 | _, _ => True
def Qg (w : World) (s : Sh) (v : Value) : Prop := ∃ d : s.den, CV s d ∧ ∃ av, lA s [av] d ∧ VR (J9 w) w av v
theorem Iz {s : Sh} {T : Ty} {v : Value} (hs : PL s = some T) (h : E1 w T v) : Qg w s v := by
 obtain ⟨x, J, p, I, ho, hr⟩ := h
 cases s with
 | int k =>
  obtain rfl := ya hs
  have I := (yx I).1
  subst I
  cases hr
  exact ⟨x, J, _, rfl, .lit _ rfl⟩
 | bool =>
  obtain rfl := ya hs
  have I := (yx I).1
  subst I
  cases hr
  exact ⟨x, trivial, _, rfl, .lit _ rfl⟩
 | str =>
  obtain rfl := ya hs
  have I := (yx I).1
  subst I
  cases hr
  exact ⟨x, J, _, rfl, .lit _ rfl⟩
 | sl β ag K =>
  cases β with
  | false => cases hs
  | true =>
   obtain rfl := ya hs
   have I : p = dN ag K x := ((yx I).1).symm
   subst I
   exact ⟨x, J, .imm true (dN ag K x), .inl ⟨true, fun _ => rfl, rfl⟩, .imm true _ v hr (p5 ag K x)⟩
 | _ => cases hs
theorem Cq {t : TypeId} {s : Sh} (h : Be P t s = true) : wE P t := by
 unfold Be at h
 split at h
 ·exact B0 h
 ·cases h
theorem B9 {t : TypeId} {s : Sh} {fuel : Nat} {v : Value} {y : DataW H × List MemPlace} (h : Be P t s = true) (hr : rA enc P w fuel t [v] = some y) (I : Lw P t y.1) : Qg w s v := by
 unfold Be at h
 split at h
 ·rename_i T hT
  exact Iz hT (Gx (enc := enc) (rd := MD P 8) (fuel := fuel) (fun m t T cs x _ K M J => MB m 8 t T cs x K M J) t T v h ⟨fuel, y, yy _, hr, I⟩)
 ·cases h
theorem Fd {cs : List Value} : ∀ {ls : List (Nat × TypeId)} {n : Nat} {s : Sh}, JW P n ls s = true → (∀ q ∈ ls, wE P q.2 → ∃ m v y, cs[q.1]? = some v ∧ rA enc P w m q.2 [v] = some y ∧ Lw P q.2 y.1) →
  ∃ d : s.den, CV s d ∧ ∃ avs : List AV, lA s avs d ∧ avs.length = ls.length ∧ ∀ (j : Nat) (a : AV), avs[j]? = some a → ∃ v, cs[n + j]? = some v ∧ VR (J9 w) w a v
 | [], n, s, h, hr => by
  unfold JW at h
  split at h
  ·exact ⟨(), trivial, [], rfl, rfl, fun j a J => by simp at J⟩
  ·cases h
 | q :: r, n, s, h, hr => by
  unfold JW at h
  split at h
  ·rename_i s a b
   simp only [yb] at h
   obtain ⟨m, v, y, Z, hy, V⟩ := hr q (ym ..) (Cq h.1.2)
   obtain ⟨d, hf, O, W, U⟩ := B9 h.1.2 hy V
   obtain ⟨M, Y, avs, I, K, N⟩ := Fd h.2 fun q hq => hr q (yh _ hq)
   refine ⟨P2.mk _ _ d M, ⟨?_, ?_⟩, O :: avs, ⟨O, avs, rfl, ?_, ?_⟩, by simp [K], fun j a J => ?_⟩
   ·exact Eq.mpr (congrArg (CV a) (fst_mk d M)) hf
   ·exact Eq.mpr (congrArg (CV b) (snd_mk d M)) Y
   ·exact Eq.mpr (congrArg (lA a [O]) (fst_mk d M)) W
   ·exact Eq.mpr (congrArg (lA b avs) (snd_mk d M)) I
   ·cases j with
    | zero =>
     simp at J; subst J
     rw [nb.1 h.1.1] at Z
     exact ⟨v, Z, U⟩
    | succ j =>
     obtain ⟨v', h1, h2⟩ := N j a (by simpa using J)
     exact ⟨v', by rw [show n + (j + 1) = n + 1 + j by omega]; exact h1, h2⟩
  ·cases h
theorem I2 {t : TypeId} {v : Value} {r : Reach} {base : Nat} (I : wE P t) (h : Value.okWide P w r base t v) : v.cells.toList = [v] := by
 rcases I with ⟨k, ht⟩ | ht | ht | ⟨e, ht⟩ <;> simp only [Value.okWide, ht, Cell.okWide] at h <;> cases v <;> simp_all [Cell.ok, Value.cells]
theorem KT {t : TypeId} {s : Sh} {v : Value} {r : Reach} {base : Nat} {d : DataW H} {ps : List MemPlace} (h : Nj P t s = true) (Z : Value.okWide P w r base t v) (hr : DataW.Trod enc P w 0 (fun _ => true) true t v d ps) (J : Lw P t d) : Qg w s v := by
 obtain ⟨fuel, hr⟩ := hr
 unfold Nj at h
 split at h
 ·rename_i fs ht
  split at h
  ·rename_i s l
   split at h
   ·rename_i ls U
    simp only [yb] at h
    obtain ⟨cs, rfl, W⟩ := okWide_struct ht Z
    have V : rA enc P w fuel t cs.toList = some (d, ps) := hr
    obtain ⟨d, hf, avs, O, I, N⟩ := Fd (enc := enc) (w := w) (cs := cs.toList) h.2 fun q hq Y => by
     obtain ⟨m, v, y, _, K, M, h3⟩ := A3 8 U V J q hq Y
     exact ⟨m, v, y, K, M, h3⟩
    refine ⟨d, hf, .agg avs, ⟨avs, rfl, O⟩, .agg avs cs (by rw [I, nb.1 h.1, W]) fun j y hy => ?_⟩
    obtain ⟨v, K, M⟩ := N j y hy
    rw [yc1] at K
    rw [yj, ← yp1, K]
    exact M
   ·cases h
  ·cases h
 ·cases h
 ·have hl := Cq h
  rw [I2 hl Z] at hr
  exact B9 h hr J
theorem Ci {r : Reach} {base : Nat} : ∀ {ts : List TypeId} {s : Sh} {vs : List Value} {N : List (DataW H)} {ps : List MemPlace}, Dz P ts s = true → (∀ (j : Nat) (t : TypeId) (v : Value), ts[j]? = some t → vs[j]? = some v → Value.okWide P w r base t v) →
  DataW.TrodAll enc P w 0 (fun _ => true) true ts vs N ps → (∀ n ∈ DataW.weightsEach P ts N, n ≤ reachBytes) → ∃ d : s.den, CV s d ∧ ∃ as : List AV, lA s as d ∧ nC (J9 w) w as vs.toArray ∧ as.length = ts.length
 | [], s, vs, N, ps, h, Y, hr, I => by
  unfold Dz at h
  split at h
  ·obtain ⟨rfl, rfl, rfl⟩ := trodAll_nil hr
   exact ⟨(), trivial, [], rfl, nC.nil, rfl⟩
  ·cases h
 | t :: ts, s, vs, N, ps, h, Y, hr, I => by
  unfold Dz at h
  split at h
  ·rename_i s a b
   rw [yb] at h
   obtain ⟨v, vs', d, ds', p, q, rfl, rfl, rfl, O, U⟩ := trodAll_cons hr
   obtain ⟨d, hf, W, Z, hv⟩ := KT h.1 (Y 0 t v rfl rfl) O (fun n hn => I n (by simp only [DataW.weightsEach, yo1]; exact .inl hn))
   obtain ⟨M, hf2, as, J, V, K⟩ := Ci h.2 (fun j t v O U => Y (j + 1) t v (by simpa using O) (by simpa using U)) U (fun n hn => I n (by simp only [DataW.weightsEach, yo1]; exact .inr hn))
   refine ⟨P2.mk _ _ d M, ⟨?_, ?_⟩, W :: as, ⟨W, as, rfl, ?_, ?_⟩, nC.cons hv V, by simp [K]⟩
   ·exact Eq.mpr (congrArg (CV a) (fst_mk d M)) hf
   ·exact Eq.mpr (congrArg (CV b) (snd_mk d M)) hf2
   ·exact Eq.mpr (congrArg (lA a [W]) (fst_mk d M)) Z
   ·exact Eq.mpr (congrArg (lA b as) (snd_mk d M)) J
  ·cases h
theorem w3 (K : laidOutB P = true) {O : World} (M : Below w.heap.size w O) : ∀ {ts : List TypeId} {vs : List Value} {I : List (DataW H)} {ps : List MemPlace}, (ts.all fun t => P.readableRec t && Nat.blt t P.types.size) = true →
  DataW.TrodAll enc P w 0 (fun _ => true) true ts vs I ps → DataW.TrodAll enc P O 0 (fun b => decide (b < w.heap.size)) true ts vs I ps
 | [], vs, I, ps, ht, hr => by
  obtain ⟨rfl, rfl, rfl⟩ := trodAll_nil hr
  exact trodAll_mk0
 | t :: ts, vs, I, ps, ht, hr => by
  rw [yh3, yb, yb] at ht
  obtain ⟨v, V, d, W, p, q, rfl, rfl, rfl, N, U⟩ := trodAll_cons hr
  have J : ∀ x ∈ p, x.block < w.heap.size := by obtain ⟨m, hm⟩ := N; exact DataW.trod_lt m _ _ _ hm
  exact trodAll_cons_mk (Below.trod K ht.1.1 (Nat.blt_eq ▸ ht.1.2) N M J) (w3 K M ht.2 U)
theorem B8 {K : Nat → Bool} {I : Bool} {base : Nat} : ∀ {ts : List TypeId} {vs : List Value} {J : List (DataW H)} {ps : List MemPlace}, DataW.TrodAll enc P w base K I ts vs J ps → vs.length = ts.length ∧ J.length = ts.length
 | [], vs, J, ps, hr => by
  obtain ⟨rfl, rfl, rfl⟩ := trodAll_nil hr
  exact ⟨rfl, rfl⟩
 | t :: ts, vs, J, ps, hr => by
  obtain ⟨v, O, d, N, p, q, rfl, rfl, rfl, h1, M⟩ := trodAll_cons hr
  have := B8 M
  exact ⟨by simp [this.1], by simp [this.2]⟩
def NN (P : Program) (fn : Func) (sh : Sh) : Bool :=
 laidOutB P && Dz P fn.params.toList sh && (fn.params.toList.all fun t => P.readableRec t && Nat.blt t P.types.size) &&
 (match fn.resultTypes.toList with | [t] => (match P.underlying t with | some .bool => true | _ => false) | _ => false)
theorem rC (J : List TypeId) (I : List (DataW H)) : ∀ {ts : List TypeId} {K : List (DataW H)}, K.length = ts.length → ∀ n ∈ DataW.weightsEach P ts K, n ∈ DataW.weightsEach P (ts ++ J) (K ++ I)
 | [], [], _, n, hn => by simp [DataW.weightsEach] at hn
 | t :: ts, d :: K, h, n, hn => by
  simp only [yp2, DataW.weightsEach, yo1] at hn ⊢
  exact hn.imp id (rC J I (by simpa using h) n)
 | [], _ :: _, h, _, _ => by simp at h
 | _ :: _, [], h, _, _ => by simp at h
theorem Hc {f : FuncId} {fn : Func} {s : ChangeSpec} {sh : Sh} (J : NN P fn sh = true) (K : s.vars = [])
  (Z : ∀ U : List (DataW H), U.length = fn.params.size → s.fn H U = { results := [.lit (.bool true)], args := U })
  (hrun : ∀ d : sh.den, CV sh d → ∀ (W : World) (as : List AV) (N : Array Value), rG (J9 W) W → lA sh as d → as.length = fn.params.size → nC (J9 W) W as N → Calls P f N W fun e W' => e = .returned (.bool true) ∧ Below W.heap.size W W')
  {W : World} (hg : rG (J9 W) W) {base : Nat} {args : Array Value} {U gs : List (DataW H)} {O : List MemPlace}
  (hval : ∀ (j : Nat) t v, fn.params[j]? = some t → args[j]? = some v → Value.okWide P W .any base t v) (hW : DataW.Whole enc P fn.params.toList s.vars false W args.toList U gs O)
  (hsz : (DataW.weightsEach P (fn.params.toList ++ s.plain.varTypes P) (U ++ gs)).all (· ≤ reachBytes) = true) :
  Calls P f args W fun e W' => ∃ v, e = .returned v ∧ s.post enc P fn false true false false W args v W' := by
 unfold NN at J
 simp only [yb] at J
 obtain ⟨⟨⟨hl, V⟩, hread⟩, I⟩ := J
 have hW' := hW
 obtain ⟨p, q, hA, hV, rfl, hfz, hnd⟩ := hW
 rw [K] at hV
 obtain ⟨rfl, rfl⟩ := trodVars_none hV
 have M := B8 hA
 have hwt : ∀ n ∈ DataW.weightsEach P fn.params.toList U, n ≤ reachBytes := by
  intro n hn
  have := yr1.1 hsz n (rC _ _ M.2 n hn)
  simpa using this
 obtain ⟨d, hf, as, hle, hvr, hlen⟩ := Ci V (fun j t v h1 h2 => hval j t v (by rw [← yp1]; exact h1) (by rw [← yp1]; exact h2)) hA hwt
 refine (hrun d hf W as args hg hle (by rw [hlen, yu1]) (by simpa using hvr)).mono fun e W' he => ?_
 obtain ⟨rfl, hb⟩ := he
 have Y := Z U (by rw [M.2, yu1])
 have hrt : ∃ t, fn.resultTypes = #[t] ∧ P.underlying t = some .bool := by
  split at I
  ·rename_i t ht
   split at I
   ·rename_i hu
    exact ⟨t, by cases hr : fn.resultTypes; simp_all, hu⟩
   ·cases I
  ·cases I
 obtain ⟨t, hrt, hu⟩ := hrt
 refine ⟨_, rfl, U, [], p ++ [], [], p, [], hW', ?_, ?_, ?_, hb.frame _, fun h => by cases h⟩
 ·rw [yg1, Y, hrt]
  exact trodAll_mk1 (shut_bool hu _)
 ·rw [yg1, Y]
  exact w3 hl hb hread hA
 ·rw [yg1, Y, K]
  rfl
end
end Go.Ab
