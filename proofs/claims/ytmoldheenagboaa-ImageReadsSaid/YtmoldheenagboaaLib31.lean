import Derived.Test.YtmoldheenagboaaLib30
import Derived.OpenShut
import Derived.ShutString
import Derived.ChangeOld
import Derived.Below
import Derived.Carry
set_option linter.unusedVariables false
set_option linter.unusedSectionVars false
set_option linter.unusedSimpArgs false
namespace Go.Ab
variable [b8]
open Go.RowKit Go.ChangeShapes Go.WideShapes
variable {P : Program} {H : Type} {enc : TypeId × Value → H} {w : World}
noncomputable section
def MU : Sh → Option Ty
 | .int k => some (.int k)
 | .bool => some .bool
 | .str => some .str
 | .sl β ag T => bif β then some (.sl ag T) else none
 | _ => none
def yX (P : Program) (t : TypeId) (s : Sh) : Bool := match MU s with
 | some T => zA P (Jm P 8) t T
 | none => false
def GX (P : Program) : Nat → List (Nat × TypeId) → Sh → Bool
 | _, [], s => (match s with | .nil => true | _ => false)
 | n, q :: r, s => (match s with | .cons a b => Nat.beq q.1 n && yX P q.2 a && GX P (n + 1) r b | _ => false)
def K0 (P : Program) (t : TypeId) (s : Sh) : Bool := match P.underlying t with
 | some (.struct _) => (match s with
  | .agg l => (match Gz P 8 t with | some ls => Nat.beq ls.length (P.cellsOf t) && GX P 0 ls l | none => false)
  | _ => false)
 | some (.array _ _) => false
 | _ => yX P t s
def Bt (P : Program) : List TypeId → Sh → Bool
 | [], s => (match s with | .nil => true | _ => false)
 | t :: ts, s => (match s with | .cons a b => K0 P t a && Bt P ts b | _ => false)
def Ap : (s : Sh) → s.den → Prop
 | .int k, x => (Lit.int k x).wf = true
 | .str, x => ByteArray.size x ≤ reachBytes
 | .sl _ ag T, xs => LU (.sl ag T) xs
 | .agg l, p => Ap l p
 | .cons a b, p => Ap a (P2.fst a.dflt a.un b.un p) ∧ Ap b (P2.snd b.dflt a.un b.un p)
 | _, _ => True
def NN (w : World) (s : Sh) (v : Value) : Prop := ∃ d : s.den, Ap s d ∧ ∃ av, kE s [av] d ∧ VR (Hp w) w av v
theorem GJ {s : Sh} {T : Ty} {v : Value} (J : MU s = some T) (h : B0 w T v) : NN w s v := by
 obtain ⟨x, O, p, z, ho, K⟩ := h
 cases s with
 | int k =>
  obtain rfl := ya J
  have z := (yx z).1
  subst z
  cases K
  exact ⟨x, O, _, rfl, .lit _ rfl⟩
 | bool =>
  obtain rfl := ya J
  have z := (yx z).1
  subst z
  cases K
  exact ⟨x, trivial, _, rfl, .lit _ rfl⟩
 | str =>
  obtain rfl := ya J
  have z := (yx z).1
  subst z
  cases K
  exact ⟨x, O, _, rfl, .lit _ rfl⟩
 | sl β ag N =>
  cases β with
  | false => cases J
  | true =>
   obtain rfl := ya J
   have z : p = gF ag N x := ((yx z).1).symm
   subst z
   exact ⟨x, O, .imm true (gF ag N x), .inl ⟨true, fun _ => rfl, rfl⟩, .imm true _ v K (nJ ag N x)⟩
 | _ => cases J
theorem Al {t : TypeId} {s : Sh} (h : yX P t s = true) : qT P t := by
 unfold yX at h
 split at h
 ·exact Ak h
 ·cases h
theorem z4 {t : TypeId} {s : Sh} {fuel : Nat} {v : Value} {y : DataW H × List MemPlace} (h : yX P t s = true) (J : oM enc P w fuel t [v] = some y) (N : Lw P t y.1) : NN w s v := by
 unfold yX at h
 split at h
 ·rename_i T z
  exact GJ z (C5 (enc := enc) (rd := Jm P 8) (fuel := fuel) (fun m t T cs x _ K O U => Jy m 8 t T cs x K O U) t T v h ⟨fuel, y, yu _, J, N⟩)
 ·cases h
theorem BB {cs : List Value} : ∀ {ls : List (Nat × TypeId)} {n : Nat} {s : Sh}, GX P n ls s = true → (∀ q ∈ ls, qT P q.2 → ∃ m v y, cs[q.1]? = some v ∧ oM enc P w m q.2 [v] = some y ∧ Lw P q.2 y.1) →
  ∃ d : s.den, Ap s d ∧ ∃ avs : List AV, kE s avs d ∧ avs.length = ls.length ∧ ∀ (j : Nat) (a : AV), avs[j]? = some a → ∃ v, cs[n + j]? = some v ∧ VR (Hp w) w a v
 | [], n, s, h, V => by
  unfold GX at h
  split at h
  ·exact ⟨(), trivial, [], rfl, rfl, fun j a z => by simp at z⟩
  ·cases h
 | q :: r, n, s, h, V => by
  unfold GX at h
  split at h
  ·rename_i s a b
   simp only [yc] at h
   obtain ⟨m, v, y, hv, hy, Z⟩ := V q (ym ..) (Al h.1.2)
   obtain ⟨d, hf, U, O, W⟩ := z4 h.1.2 hy Z
   obtain ⟨K, Y, avs, J, N, hvs⟩ := BB h.2 fun q hq => V q (yi _ hq)
   refine ⟨P2.mk _ _ d K, ⟨?_, ?_⟩, U :: avs, ⟨U, avs, rfl, ?_, ?_⟩, by simp [N], fun j a z => ?_⟩
   ·exact Eq.mpr (congrArg (Ap a) (fst_mk d K)) hf
   ·exact Eq.mpr (congrArg (Ap b) (snd_mk d K)) Y
   ·exact Eq.mpr (congrArg (kE a [U]) (fst_mk d K)) O
   ·exact Eq.mpr (congrArg (kE b avs) (snd_mk d K)) J
   ·cases j with
    | zero =>
     simp at z; subst z
     rw [nb.1 h.1.1] at hv
     exact ⟨v, hv, W⟩
    | succ j =>
     obtain ⟨v', h1, h2⟩ := hvs j a (by simpa using z)
     exact ⟨v', by rw [show n + (j + 1) = n + 1 + j by omega]; exact h1, h2⟩
  ·cases h
theorem Gs {t : TypeId} {v : Value} {r : Reach} {base : Nat} (J : qT P t) (h : Value.okWide P w r base t v) : v.cells.toList = [v] := by
 rcases J with ⟨k, z⟩ | z | z | ⟨e, z⟩ <;> simp only [Value.okWide, z, Cell.okWide] at h <;> cases v <;> simp_all [Cell.ok, Value.cells]
theorem Ic {t : TypeId} {s : Sh} {v : Value} {r : Reach} {base : Nat} {d : DataW H} {ps : List MemPlace} (h : K0 P t s = true) (hw : Value.okWide P w r base t v) (J : DataW.Trod enc P w 0 (fun _ => true) true t v d ps) (z : Lw P t d) : NN w s v := by
 obtain ⟨fuel, J⟩ := J
 unfold K0 at h
 split at h
 ·rename_i fs ht
  split at h
  ·rename_i s l
   split at h
   ·rename_i ls O
    simp only [yc] at h
    obtain ⟨cs, rfl, W⟩ := okWide_struct ht hw
    have V : oM enc P w fuel t cs.toList = some (d, ps) := J
    obtain ⟨d, hf, avs, U, K, Z⟩ := BB (enc := enc) (w := w) (cs := cs.toList) h.2 fun q hq Y => by
     obtain ⟨m, v, y, _, N, h2, h3⟩ := yJ 8 O V z q hq Y
     exact ⟨m, v, y, N, h2, h3⟩
    refine ⟨d, hf, .agg avs, ⟨avs, rfl, U⟩, .agg avs cs (by rw [K, nb.1 h.1, W]) fun j y hy => ?_⟩
    obtain ⟨v, N, h2⟩ := Z j y hy
    rw [yh1] at N
    rw [yk, ← ym1, N]
    exact h2
   ·cases h
  ·cases h
 ·cases h
 ·have hl := Al h
  rw [Gs hl hw] at J
  exact z4 h J z
theorem Af {r : Reach} {base : Nat} : ∀ {ts : List TypeId} {s : Sh} {vs : List Value} {O : List (DataW H)} {ps : List MemPlace}, Bt P ts s = true → (∀ (j : Nat) (t : TypeId) (v : Value), ts[j]? = some t → vs[j]? = some v → Value.okWide P w r base t v) →
  DataW.TrodAll enc P w 0 (fun _ => true) true ts vs O ps → (∀ n ∈ DataW.weightsEach P ts O, n ≤ reachBytes) → ∃ d : s.den, Ap s d ∧ ∃ as : List AV, kE s as d ∧ nE (Hp w) w as vs.toArray ∧ as.length = ts.length
 | [], s, vs, O, ps, h, hw, Y, z => by
  unfold Bt at h
  split at h
  ·obtain ⟨rfl, rfl, rfl⟩ := trodAll_nil Y
   exact ⟨(), trivial, [], rfl, nE.nil, rfl⟩
  ·cases h
 | t :: ts, s, vs, O, ps, h, hw, Y, z => by
  unfold Bt at h
  split at h
  ·rename_i s a b
   rw [yc] at h
   obtain ⟨v, vs', d, ds', p, q, rfl, rfl, rfl, Z, h2⟩ := trodAll_cons Y
   obtain ⟨d, hf, W, V, hv⟩ := Ic h.1 (hw 0 t v rfl rfl) Z (fun n U => z n (by simp only [DataW.weightsEach, yj1]; exact .inl U))
   obtain ⟨K, hf2, as, J, hvs, N⟩ := Af h.2 (fun j t v Z h2 => hw (j + 1) t v (by simpa using Z) (by simpa using h2)) h2 (fun n U => z n (by simp only [DataW.weightsEach, yj1]; exact .inr U))
   refine ⟨P2.mk _ _ d K, ⟨?_, ?_⟩, W :: as, ⟨W, as, rfl, ?_, ?_⟩, nE.cons hv hvs, by simp [N]⟩
   ·exact Eq.mpr (congrArg (Ap a) (fst_mk d K)) hf
   ·exact Eq.mpr (congrArg (Ap b) (snd_mk d K)) hf2
   ·exact Eq.mpr (congrArg (kE a [W]) (fst_mk d K)) V
   ·exact Eq.mpr (congrArg (kE b as) (snd_mk d K)) J
  ·cases h
theorem rH (O : laidOutB P = true) {W : World} (V : Below w.heap.size w W) : ∀ {ts : List TypeId} {vs : List Value} {J : List (DataW H)} {ps : List MemPlace}, (ts.all fun t => P.readableRec t && Nat.blt t P.types.size) = true →
  DataW.TrodAll enc P w 0 (fun _ => true) true ts vs J ps → DataW.TrodAll enc P W 0 (fun b => decide (b < w.heap.size)) true ts vs J ps
 | [], vs, J, ps, z, K => by
  obtain ⟨rfl, rfl, rfl⟩ := trodAll_nil K
  exact trodAll_mk0
 | t :: ts, vs, J, ps, z, K => by
  rw [yk3, yc, yc] at z
  obtain ⟨v, Z, d, Y, p, q, rfl, rfl, rfl, U, h2⟩ := trodAll_cons K
  have N : ∀ x ∈ p, x.block < w.heap.size := by obtain ⟨m, hm⟩ := U; exact DataW.trod_lt m _ _ _ hm
  exact trodAll_cons_mk (Below.trod O z.1.1 (Nat.blt_eq ▸ z.1.2) U V N) (rH O V z.2 h2)
theorem zR {N : Nat → Bool} {z : Bool} {base : Nat} : ∀ {ts : List TypeId} {vs : List Value} {J : List (DataW H)} {ps : List MemPlace}, DataW.TrodAll enc P w base N z ts vs J ps → vs.length = ts.length ∧ J.length = ts.length
 | [], vs, J, ps, K => by
  obtain ⟨rfl, rfl, rfl⟩ := trodAll_nil K
  exact ⟨rfl, rfl⟩
 | t :: ts, vs, J, ps, K => by
  obtain ⟨v, V, d, U, p, q, rfl, rfl, rfl, h1, O⟩ := trodAll_cons K
  have := zR O
  exact ⟨by simp [this.1], by simp [this.2]⟩
def KH (P : Program) (fn : Func) (sh : Sh) : Bool :=
 laidOutB P && Bt P fn.params.toList sh && (fn.params.toList.all fun t => P.readableRec t && Nat.blt t P.types.size) &&
 (match fn.resultTypes.toList with | [t] => (match P.underlying t with | some .bool => true | _ => false) | _ => false)
theorem oP (J : List TypeId) (z : List (DataW H)) : ∀ {ts : List TypeId} {N : List (DataW H)}, N.length = ts.length → ∀ n ∈ DataW.weightsEach P ts N, n ∈ DataW.weightsEach P (ts ++ J) (N ++ z)
 | [], [], _, n, K => by simp [DataW.weightsEach] at K
 | t :: ts, d :: N, h, n, K => by
  simp only [yx2, DataW.weightsEach, yj1] at K ⊢
  exact K.imp id (oP J z (by simpa using h) n)
 | [], _ :: _, h, _, _ => by simp at h
 | _ :: _, [], h, _, _ => by simp at h
theorem Fo {f : FuncId} {fn : Func} {s : ChangeSpec} {sh : Sh} (O : KH P fn sh = true) (J : s.vars = [])
  (hspec : ∀ U : List (DataW H), U.length = fn.params.size → s.fn H U = { results := [.lit (.bool true)], args := U })
  (hrun : ∀ d : sh.den, Ap sh d → ∀ (W : World) (as : List AV) (N : Array Value), oQ (Hp W) W → kE sh as d → as.length = fn.params.size → nE (Hp W) W as N → Calls P f N W fun e W' => e = .returned (.bool true) ∧ Below W.heap.size W W')
  {W : World} (hg : oQ (Hp W) W) {base : Nat} {args : Array Value} {U gs : List (DataW H)} {V : List MemPlace}
  (hval : ∀ (j : Nat) t v, fn.params[j]? = some t → args[j]? = some v → Value.okWide P W .any base t v) (hW : DataW.Whole enc P fn.params.toList s.vars false W args.toList U gs V)
  (hsz : (DataW.weightsEach P (fn.params.toList ++ s.plain.varTypes P) (U ++ gs)).all (· ≤ reachBytes) = true) :
  Calls P f args W fun e W' => ∃ v, e = .returned v ∧ s.post enc P fn false true false false W args v W' := by
 unfold KH at O
 simp only [yc] at O
 obtain ⟨⟨⟨hl, Y⟩, hread⟩, z⟩ := O
 have hW' := hW
 obtain ⟨p, q, hA, hV, rfl, hfz, hnd⟩ := hW
 rw [J] at hV
 obtain ⟨rfl, rfl⟩ := trodVars_none hV
 have K := zR hA
 have hwt : ∀ n ∈ DataW.weightsEach P fn.params.toList U, n ≤ reachBytes := by
  intro n hn
  have := yi2.1 hsz n (oP _ _ K.2 n hn)
  simpa using this
 obtain ⟨d, hf, as, hle, hvr, hlen⟩ := Af Y (fun j t v h1 h2 => hval j t v (by rw [← ym1]; exact h1) (by rw [← ym1]; exact h2)) hA hwt
 refine (hrun d hf W as args hg hle (by rw [hlen, yv1]) (by simpa using hvr)).mono fun e W' he => ?_
 obtain ⟨rfl, hb⟩ := he
 have hsp := hspec U (by rw [K.2, yv1])
 have Z : ∃ t, fn.resultTypes = #[t] ∧ P.underlying t = some .bool := by
  split at z
  ·rename_i t ht
   split at z
   ·rename_i hu
    exact ⟨t, by cases hr : fn.resultTypes; simp_all, hu⟩
   ·cases z
  ·cases z
 obtain ⟨t, Z, hu⟩ := Z
 refine ⟨_, rfl, U, [], p ++ [], [], p, [], hW', ?_, ?_, ?_, hb.frame _, fun h => by cases h⟩
 ·rw [yp1, hsp, Z]
  exact trodAll_mk1 (shut_bool hu _)
 ·rw [yp1, hsp]
  exact rH hl hb hread hA
 ·rw [yp1, hsp, J]
  rfl
end
end Go.Ab
