import Derived.Test.YtdlbbdbbpoggfaaGreatDoorLib30
import Derived.OpenShut
import Derived.ShutString
import Derived.ChangeOld
import Derived.Below
import Derived.Carry
set_option linter.unusedVariables false
set_option linter.unusedSectionVars false
set_option linter.unusedSimpArgs false
namespace Go.Ab
variable [cD]
open Go.RowKit Go.ChangeShapes Go.WideShapes
variable {P : Program} {H : Type} {enc : TypeId × Value → H} {w : World}
noncomputable section
def PT : Sh → Option Ty
 | .int k => some (.int k)
 | .bool => some .bool
 | .str => some .str
 | .sl β ag T => bif β then some (.sl ag T) else none
 | _ => none
def A1 (P : Program) (t : TypeId) (s : Sh) : Bool := match PT s with
 | some T => AX P (LV P 8) t T
 | none => false
def HB (P : Program) : Nat → List (Nat × TypeId) → Sh → Bool
 | _, [], s => (match s with | .nil => true | _ => false)
 | n, q :: r, s => (match s with | .cons a b => Nat.beq q.1 n && A1 P q.2 a && HB P (n + 1) r b | _ => false)
def MA (P : Program) (t : TypeId) (s : Sh) : Bool := match P.underlying t with
 | some (.struct _) => (match s with
  | .agg l => (match Im P 8 t with | some ls => Nat.beq ls.length (P.cellsOf t) && HB P 0 ls l | none => false)
  | _ => false)
 | some (.array _ _) => false
 | _ => A1 P t s
def Dd (P : Program) : List TypeId → Sh → Bool
 | [], s => (match s with | .nil => true | _ => false)
 | t :: ts, s => (match s with | .cons a b => MA P t a && Dd P ts b | _ => false)
def mO : (s : Sh) → s.den → Prop
 | .int k, x => (Lit.int k x).wf = true
 | .str, x => ByteArray.size x ≤ reachBytes
 | .sl _ ag T, xs => kV (.sl ag T) xs
 | .agg l, p => mO l p
 | .cons a b, p => mO a (P2.fst a.dflt a.un b.un p) ∧ mO b (P2.snd b.dflt a.un b.un p)
 | _, _ => True
def Qs (w : World) (s : Sh) (v : Value) : Prop := ∃ d : s.den, mO s d ∧ ∃ av, l9 s [av] d ∧ VR (Gf w) w av v
theorem Ic {s : Sh} {T : Ty} {v : Value} (A : PT s = some T) (h : C6 w T v) : Qs w s v := by
 obtain ⟨x, hf, p, z, ho, J⟩ := h
 cases s with
 | int k =>
  obtain rfl := yb A
  have z := (yc1 z).1
  subst z
  cases J
  exact ⟨x, hf, _, rfl, .lit _ rfl⟩
 | bool =>
  obtain rfl := yb A
  have z := (yc1 z).1
  subst z
  cases J
  exact ⟨x, trivial, _, rfl, .lit _ rfl⟩
 | str =>
  obtain rfl := yb A
  have z := (yc1 z).1
  subst z
  cases J
  exact ⟨x, hf, _, rfl, .lit _ rfl⟩
 | sl β ag K =>
  cases β with
  | false => cases A
  | true =>
   obtain rfl := yb A
   have z : p = iH ag K x := ((yc1 z).1).symm
   subst z
   exact ⟨x, hf, .imm true (iH ag K x), .inl ⟨true, fun _ => rfl, rfl⟩, .imm true _ v J (pL ag K x)⟩
 | _ => cases A
theorem Bm {t : TypeId} {s : Sh} (h : A1 P t s = true) : sO P t := by
 unfold A1 at h
 split at h
 ·exact Bw h
 ·cases h
theorem Bs {t : TypeId} {s : Sh} {fuel : Nat} {v : Value} {y : DataW H × List MemPlace} (h : A1 P t s = true) (z : p8 enc P w fuel t [v] = some y) (A : Lw P t y.1) : Qs w s v := by
 unfold A1 at h
 split at h
 ·rename_i T hT
  exact Ic hT (Fs (enc := enc) (rd := LV P 8) (fuel := fuel) (fun m t T cs x _ h1 h2 J => LA m 8 t T cs x h1 h2 J) t T v h ⟨fuel, y, yz _, z, A⟩)
 ·cases h
theorem Et {cs : List Value} : ∀ {W : List (Nat × TypeId)} {n : Nat} {s : Sh}, HB P n W s = true → (∀ q ∈ W, sO P q.2 → ∃ m v y, cs[q.1]? = some v ∧ p8 enc P w m q.2 [v] = some y ∧ Lw P q.2 y.1) →
  ∃ d : s.den, mO s d ∧ ∃ avs : List AV, l9 s avs d ∧ avs.length = W.length ∧ ∀ (j : Nat) (a : AV), avs[j]? = some a → ∃ v, cs[n + j]? = some v ∧ VR (Gf w) w a v
 | [], n, s, h, M => by
  unfold HB at h
  split at h
  ·exact ⟨(), trivial, [], rfl, rfl, fun j a z => by simp at z⟩
  ·cases h
 | q :: r, n, s, h, M => by
  unfold HB at h
  split at h
  ·rename_i s a b
   simp only [yc] at h
   obtain ⟨m, v, y, hv, hy, N⟩ := M q (yn ..) (Bm h.1.2)
   obtain ⟨d, hf, V, U, Z⟩ := Bs h.1.2 hy N
   obtain ⟨J, O, avs, K, A, Y⟩ := Et h.2 fun q hq => M q (yk _ hq)
   refine ⟨P2.mk _ _ d J, ⟨?_, ?_⟩, V :: avs, ⟨V, avs, rfl, ?_, ?_⟩, by simp [A], fun j a z => ?_⟩
   ·exact Eq.mpr (congrArg (mO a) (fst_mk d J)) hf
   ·exact Eq.mpr (congrArg (mO b) (snd_mk d J)) O
   ·exact Eq.mpr (congrArg (l9 a [V]) (fst_mk d J)) U
   ·exact Eq.mpr (congrArg (l9 b avs) (snd_mk d J)) K
   ·cases j with
    | zero =>
     simp at z; subst z
     rw [nb.1 h.1.1] at hv
     exact ⟨v, hv, Z⟩
    | succ j =>
     obtain ⟨v', h1, h2⟩ := Y j a (by simpa using z)
     exact ⟨v', by rw [show n + (j + 1) = n + 1 + j by omega]; exact h1, h2⟩
  ·cases h
theorem Hv {t : TypeId} {v : Value} {r : Reach} {base : Nat} (hl : sO P t) (h : Value.okWide P w r base t v) : v.cells.toList = [v] := by
 rcases hl with ⟨k, ht⟩ | ht | ht | ⟨e, ht⟩ <;> simp only [Value.okWide, ht, Cell.okWide] at h <;> cases v <;> simp_all [Cell.ok, Value.cells]
theorem Jv {t : TypeId} {s : Sh} {v : Value} {r : Reach} {base : Nat} {d : DataW H} {ps : List MemPlace} (h : MA P t s = true) (W : Value.okWide P w r base t v) (z : DataW.Trod enc P w 0 (fun _ => true) true t v d ps) (J : Lw P t d) : Qs w s v := by
 obtain ⟨fuel, z⟩ := z
 unfold MA at h
 split at h
 ·rename_i fs ht
  split at h
  ·rename_i s l
   split at h
   ·rename_i ls O
    simp only [yc] at h
    obtain ⟨cs, rfl, N⟩ := okWide_struct ht W
    have V : p8 enc P w fuel t cs.toList = some (d, ps) := z
    obtain ⟨d, hf, avs, M, A, U⟩ := Et (enc := enc) (w := w) (cs := cs.toList) h.2 fun q Y K => by
     obtain ⟨m, v, y, _, h1, h2, h3⟩ := AW 8 O V J q Y K
     exact ⟨m, v, y, h1, h2, h3⟩
    refine ⟨d, hf, .agg avs, ⟨avs, rfl, M⟩, .agg avs cs (by rw [A, nb.1 h.1, N]) fun j y Z => ?_⟩
    obtain ⟨v, h1, h2⟩ := U j y Z
    rw [yj1] at h1
    rw [ym, ← yk1, h1]
    exact h2
   ·cases h
  ·cases h
 ·cases h
 ·have hl := Bm h
  rw [Hv hl W] at z
  exact Bs h z J
theorem BE {r : Reach} {base : Nat} : ∀ {ts : List TypeId} {s : Sh} {vs : List Value} {M : List (DataW H)} {ps : List MemPlace}, Dd P ts s = true → (∀ (j : Nat) (t : TypeId) (v : Value), ts[j]? = some t → vs[j]? = some v → Value.okWide P w r base t v) →
  DataW.TrodAll enc P w 0 (fun _ => true) true ts vs M ps → (∀ n ∈ DataW.weightsEach P ts M, n ≤ reachBytes) → ∃ d : s.den, mO s d ∧ ∃ as : List AV, l9 s as d ∧ o6 (Gf w) w as vs.toArray ∧ as.length = ts.length
 | [], s, vs, M, ps, h, N, O, z => by
  unfold Dd at h
  split at h
  ·obtain ⟨rfl, rfl, rfl⟩ := trodAll_nil O
   exact ⟨(), trivial, [], rfl, o6.nil, rfl⟩
  ·cases h
 | t :: ts, s, vs, M, ps, h, N, O, z => by
  unfold Dd at h
  split at h
  ·rename_i s a b
   rw [yc] at h
   obtain ⟨v, Z, d, ds', p, q, rfl, rfl, rfl, h1, h2⟩ := trodAll_cons O
   obtain ⟨d, hf, W, V, hv⟩ := Jv h.1 (N 0 t v rfl rfl) h1 (fun n hn => z n (by simp only [DataW.weightsEach, yy1]; exact .inl hn))
   obtain ⟨J, U, as, K, Y, A⟩ := BE h.2 (fun j t v h1 h2 => N (j + 1) t v (by simpa using h1) (by simpa using h2)) h2 (fun n hn => z n (by simp only [DataW.weightsEach, yy1]; exact .inr hn))
   refine ⟨P2.mk _ _ d J, ⟨?_, ?_⟩, W :: as, ⟨W, as, rfl, ?_, ?_⟩, o6.cons hv Y, by simp [A]⟩
   ·exact Eq.mpr (congrArg (mO a) (fst_mk d J)) hf
   ·exact Eq.mpr (congrArg (mO b) (snd_mk d J)) U
   ·exact Eq.mpr (congrArg (l9 a [W]) (fst_mk d J)) V
   ·exact Eq.mpr (congrArg (l9 b as) (snd_mk d J)) K
  ·cases h
theorem vS (hl : laidOutB P = true) {J : World} (K : Below w.heap.size w J) : ∀ {ts : List TypeId} {vs : List Value} {h : List (DataW H)} {ps : List MemPlace}, (ts.all fun t => P.readableRec t && Nat.blt t P.types.size) = true →
  DataW.TrodAll enc P w 0 (fun _ => true) true ts vs h ps → DataW.TrodAll enc P J 0 (fun b => decide (b < w.heap.size)) true ts vs h ps
 | [], vs, h, ps, ht, A => by
  obtain ⟨rfl, rfl, rfl⟩ := trodAll_nil A
  exact trodAll_mk0
 | t :: ts, vs, h, ps, ht, A => by
  rw [ye3, yc, yc] at ht
  obtain ⟨v, M, d, N, p, q, rfl, rfl, rfl, h1, h2⟩ := trodAll_cons A
  have z : ∀ x ∈ p, x.block < w.heap.size := by obtain ⟨m, hm⟩ := h1; exact DataW.trod_lt m _ _ _ hm
  exact trodAll_cons_mk (Below.trod hl ht.1.1 (Nat.blt_eq ▸ ht.1.2) h1 K z) (vS hl K ht.2 h2)
theorem BB {J : Nat → Bool} {h : Bool} {base : Nat} : ∀ {ts : List TypeId} {vs : List Value} {z : List (DataW H)} {ps : List MemPlace}, DataW.TrodAll enc P w base J h ts vs z ps → vs.length = ts.length ∧ z.length = ts.length
 | [], vs, z, ps, A => by
  obtain ⟨rfl, rfl, rfl⟩ := trodAll_nil A
  exact ⟨rfl, rfl⟩
 | t :: ts, vs, z, ps, A => by
  obtain ⟨v, K, d, M, p, q, rfl, rfl, rfl, h1, h2⟩ := trodAll_cons A
  have := BB h2
  exact ⟨by simp [this.1], by simp [this.2]⟩
def H9 (P : Program) (fn : Func) (sh : Sh) : Bool :=
 laidOutB P && Dd P fn.params.toList sh && (fn.params.toList.all fun t => P.readableRec t && Nat.blt t P.types.size) &&
 (match fn.resultTypes.toList with | [t] => (match P.underlying t with | some .bool => true | _ => false) | _ => false)
theorem qB (z : List TypeId) (A : List (DataW H)) : ∀ {ts : List TypeId} {J : List (DataW H)}, J.length = ts.length → ∀ n ∈ DataW.weightsEach P ts J, n ∈ DataW.weightsEach P (ts ++ z) (J ++ A)
 | [], [], _, n, hn => by simp [DataW.weightsEach] at hn
 | t :: ts, d :: J, h, n, hn => by
  simp only [yp3, DataW.weightsEach, yy1] at hn ⊢
  exact hn.imp id (qB z A (by simpa using h) n)
 | [], _ :: _, h, _, _ => by simp at h
 | _ :: _, [], h, _, _ => by simp at h
theorem oZ {f : FuncId} {fn : Func} {s : ChangeSpec} {sh : Sh} (M : H9 P fn sh = true) (J : s.vars = [])
  (Z : ∀ O : List (DataW H), O.length = fn.params.size → s.fn H O = { results := [.lit (.bool true)], args := O })
  (hrun : ∀ d : sh.den, mO sh d → ∀ (W : World) (as : List AV) (A : Array Value), n9 (Gf W) W → l9 sh as d → as.length = fn.params.size → o6 (Gf W) W as A → Calls P f A W fun e W' => e = .returned (.bool true) ∧ Below W.heap.size W W')
  {W : World} (hg : n9 (Gf W) W) {base : Nat} {args : Array Value} {O gs : List (DataW H)} {N : List MemPlace}
  (hval : ∀ (j : Nat) t v, fn.params[j]? = some t → args[j]? = some v → Value.okWide P W .any base t v) (hW : DataW.Whole enc P fn.params.toList s.vars false W args.toList O gs N)
  (hsz : (DataW.weightsEach P (fn.params.toList ++ s.plain.varTypes P) (O ++ gs)).all (· ≤ reachBytes) = true) :
  Calls P f args W fun e W' => ∃ v, e = .returned v ∧ s.post enc P fn false true false false W args v W' := by
 unfold H9 at M
 simp only [yc] at M
 obtain ⟨⟨⟨hl, V⟩, U⟩, z⟩ := M
 have hW' := hW
 obtain ⟨p, q, hA, hV, rfl, hfz, hnd⟩ := hW
 rw [J] at hV
 obtain ⟨rfl, rfl⟩ := trodVars_none hV
 have K := BB hA
 have hwt : ∀ n ∈ DataW.weightsEach P fn.params.toList O, n ≤ reachBytes := by
  intro n hn
  have := yx.1 hsz n (qB _ _ K.2 n hn)
  simpa using this
 obtain ⟨d, hf, as, hle, hvr, hlen⟩ := BE V (fun j t v h1 h2 => hval j t v (by rw [← yk1]; exact h1) (by rw [← yk1]; exact h2)) hA hwt
 refine (hrun d hf W as args hg hle (by rw [hlen, yv1]) (by simpa using hvr)).mono fun e W' he => ?_
 obtain ⟨rfl, hb⟩ := he
 have hsp := Z O (by rw [K.2, yv1])
 have Y : ∃ t, fn.resultTypes = #[t] ∧ P.underlying t = some .bool := by
  split at z
  ·rename_i t ht
   split at z
   ·rename_i hu
    exact ⟨t, by cases hr : fn.resultTypes; simp_all, hu⟩
   ·cases z
  ·cases z
 obtain ⟨t, Y, hu⟩ := Y
 refine ⟨_, rfl, O, [], p ++ [], [], p, [], hW', ?_, ?_, ?_, hb.frame _, fun h => by cases h⟩
 ·rw [yu1, hsp, Y]
  exact trodAll_mk1 (shut_bool hu _)
 ·rw [yu1, hsp]
  exact vS hl hb U hA
 ·rw [yu1, hsp, J]
  rfl
end
end Go.Ab
