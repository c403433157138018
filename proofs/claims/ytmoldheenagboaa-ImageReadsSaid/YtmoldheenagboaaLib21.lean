import Derived.Test.YtmoldheenagboaaLib20
import Derived.Test.YtmoldheenagboaaLib3
set_option linter.unusedVariables false
set_option linter.unusedSectionVars false
set_option linter.unusedSimpArgs false
namespace Go.Ab
variable [b8]
theorem P2.ext {A B : Type} {da : A} {db : B} : ∀ {ua ub : Bool} {p q : P2 ua ub A B}, P2.fst da ua ub p = P2.fst da ua ub q → P2.snd db ua ub p = P2.snd db ua ub q → p = q
 | true, true, p, q, H, z => z
 | true, false, p, q, H, z => z
 | false, true, p, q, H, z => H
 | false, false, p, q, H, z => Prod.ext H z
theorem P2.fst_mk {A B : Type} {da : A} : ∀ {ua ub : Bool} (a : A) (b : B), ua = true ∨ P2.fst da ua ub (P2.mk ua ub a b) = a
 | true, _, _, _ => .inl rfl
 | false, true, _, _ => .inr rfl
 | false, false, _, _ => .inr rfl
theorem P2.snd_mk {A B : Type} {db : B} : ∀ {ua ub : Bool} (a : A) (b : B), ub = true ∨ P2.snd db ua ub (P2.mk ua ub a b) = b
 | true, true, _, _ => .inl rfl
 | true, false, _, _ => .inr rfl
 | false, true, _, _ => .inl rfl
 | false, false, _, _ => .inr rfl
theorem nS : ∀ {s : Sh}, s.un = true → ∀ x y : s.den, x = y
 | .nilS, _, x, y => rfl
 | .nilP, _, x, y => rfl
 | .undef, _, x, y => rfl
 | .ptr _ _ _ _, _, x, y => rfl
 | .msw _ _, _, x, y => rfl
 | .nil, _, x, y => rfl
 | .bnone, _, x, y => rfl
 | .fn f H J, h, x, y => by
  have z : CT H.un J.un = true := h
  rw [lQ, yc] at z
  exact P2.ext (da := H.dflt) (db := J.dflt) (nS z.1 _ _) (nS z.2 _ _)
 | .cons a b, h, x, y => by
  have z : CT a.un b.un = true := h
  rw [lQ, yc] at z
  exact P2.ext (da := a.dflt) (db := b.dflt) (nS z.1 _ _) (nS z.2 _ _)
 | .agg l, h, x, y => nS (s := l) h x y
 | .tup l, h, x, y => nS (s := l) h x y
 | .bcells _ _ _ l, h, x, y => nS (s := l) h x y
 | .int _, h, _, _ => by cases h
 | .bool, h, _, _ => by cases h
 | .str, h, _, _ => by cases h
 | .sl _ _ _, h, _, _ => by cases h
 | .el _ _ _ _, h, _, _ => by cases h
 | .ptrI _ _ _, h, _, _ => by cases h
 | .ms _ _, h, _, _ => by cases h
 | .bts _ _ _ _ _, h, _, _ => by cases h
theorem fst_mk {a b : Sh} (x : a.den) (y : b.den) : P2.fst a.dflt a.un b.un (P2.mk a.un b.un x y) = x := by
 rcases P2.fst_mk (da := a.dflt) (ua := a.un) (ub := b.un) x y with h | h
 ·exact nS h _ _
 ·exact h
theorem snd_mk {a b : Sh} (x : a.den) (y : b.den) : P2.snd b.dflt a.un b.un (P2.mk a.un b.un x y) = y := by
 rcases P2.snd_mk (db := b.dflt) (ua := a.un) (ub := b.un) x y with h | h
 ·exact nS h _ _
 ·exact h
theorem Fi {α β : Type} {f : α → β} (H : ∀ x y, f x = f y → x = y) : ∀ {xs z : List α}, xs.map f = z.map f → xs = z
 | [], [], _ => rfl
 | x :: xs, y :: z, h => by
  simp only [yc2, List.cons.injEq] at h
  rw [H _ _ h.1, Fi H h.2]
 | [], _ :: _, h => by cases h
 | _ :: _, [], h => by cases h
theorem D8 {ag : Bool} {T : Ty} (z : ∀ x y : den T, aS T x = aS T y → x = y) (x y : den T) (h : eF ag T x = eF ag T y) : x = y := by
 have := congrArg PV.cells h
 rw [cR, cR] at this
 exact z x y this
theorem Da {ag : Bool} {T : Ty} (J : ∀ x y : den T, aS T x = aS T y → x = y) {xs H : List (den T)} (h : gF ag T xs = gF ag T H) : xs = H := by
 cases z : bP ag T with
 | true =>
  obtain ⟨rfl, k, rfl⟩ := aT.1 z
  exact (PV.ints.inj h).2
 | false =>
  rw [dB z, dB z] at h
  exact Fi (D8 J) (PV.sl.inj h).2
theorem jN : ∀ {T : Ty} (x y : den T), aS T x = aS T y → x = y
 | .int k, x, y, h => by
  simp only [aS, List.cons.injEq, PV.lit.injEq, and_true] at h; exact (Value.int.inj h).2
 | .bool, x, y, h => by
  simp only [aS, List.cons.injEq, PV.lit.injEq, and_true] at h; exact Value.bool.inj h
 | .str, x, y, h => by
  simp only [aS, List.cons.injEq, PV.lit.injEq, and_true] at h; exact Value.string.inj h
 | .sl ag T, x, y, h => by
  simp only [aS, List.cons.injEq, and_true] at h
  exact Da (fun x y => jN x y) h
 | .cons a b, x, y, h => by
  simp only [aS] at h
  have J : (aS a (Prod.fst x)).length = (aS a (Prod.fst y)).length := by rw [bJ, bJ]
  obtain ⟨z, H⟩ := List.append_inj h J
  exact Prod.ext (jN _ _ z) (jN _ _ H)
theorem FQ {ag : Bool} {T : Ty} {x y : den T} (h : eF ag T x = eF ag T y) : x = y := D8 jN x y h
theorem Kv {ag : Bool} {T : Ty} {xs z : List (den T)} (h : gF ag T xs = gF ag T z) : xs = z := Da jN h
def kE : (s : Sh) → List AV → s.den → Prop
 | .int k, vs, x => vs = [.lit (.int k x)]
 | .bool, vs, x => vs = [.lit (.bool x)]
 | .str, vs, x => vs = [.lit (.string x)]
 | .nilS, vs, _ => vs = [.lit (.slice none 0 0)]
 | .nilP, vs, _ => vs = [.lit (.pointer none)]
 | .undef, vs, _ => vs = [.lit (.tuple #[])]
 | .sl β ag T, vs, xs => (∃ β', (β' = true → β = true) ∧ vs = [.imm β' (gF ag T xs)]) ∨ (vs = [.lit (.slice none 0 0)] ∧ xs = ([] : List _))
 | .el β ag T c, vs, x => ∃ β', (β' = true → β = true) ∧ vs = [.el β' (eF ag T x) c]
 | .ptr b g i c, vs, _ => vs = [.ptr b g i c]
 | .ptrI b g c, vs, i => vs = [.ptr b g i c]
 | .ms b g, vs, p => vs = [.ms b g (Prod.fst p) (Prod.snd p)]
 | .msw b g, vs, _ => vs = [.msw b g]
 | .fn f fi ca, vs, p => ∃ fi' ca', vs = [.fn (.func f) fi' ca'] ∧ kE fi fi' (P2.fst fi.dflt _ _ p) ∧ kE ca ca' (P2.snd ca.dflt _ _ p)
 | .agg l, vs, p => ∃ cs, vs = [.agg cs] ∧ kE l cs p
 | .tup l, vs, p => ∃ cs, vs = [.tup cs] ∧ kE l cs p
 | .nil, vs, _ => vs = []
 | .cons a b, vs, p => ∃ v r, vs = v :: r ∧ kE a [v] (P2.fst a.dflt _ _ p) ∧ kE b r (P2.snd b.dflt _ _ p)
 | .bnone, _, _ => False
 | .bts _ _ _ _ _, _, _ => False
 | .bcells _ _ _ _, _, _ => False
theorem nJ (ag : Bool) (T : Ty) (xs : List (den T)) : (gF ag T xs).isSl = true := by
 cases z : bP ag T with
 | true => obtain ⟨rfl, k, rfl⟩ := aT.1 z; rfl
 | false => rw [dB z]; rfl
theorem kE.unique : ∀ {s : Sh} {vs : List AV} {x y : s.den}, kE s vs x → kE s vs y → x = y
 | .int k, vs, x, y, H, z => by
  have K : vs = [.lit (.int k x)] := H
  have J : vs = [.lit (.int k y)] := z
  rw [K] at J; exact (Value.int.inj (AV.lit.inj (yx J).1)).2
 | .bool, vs, x, y, H, z => by
  have K : vs = [.lit (.bool x)] := H
  have J : vs = [.lit (.bool y)] := z
  rw [K] at J; exact Value.bool.inj (AV.lit.inj (yx J).1)
 | .str, vs, x, y, H, z => by
  have K : vs = [.lit (.string x)] := H
  have J : vs = [.lit (.string y)] := z
  rw [K] at J; exact Value.string.inj (AV.lit.inj (yx J).1)
 | .nilS, _, _, _, _, _ => rfl
 | .nilP, _, _, _, _, _ => rfl
 | .undef, _, _, _, _, _ => rfl
 | .ptr _ _ _ _, _, _, _, _, _ => rfl
 | .msw _ _, _, _, _, _, _ => rfl
 | .nil, _, _, _, _, _ => rfl
 | .bnone, _, _, _, h, _ => h.elim
 | .bts _ _ _ _ _, _, _, _, h, _ => h.elim
 | .bcells _ _ _ _, _, _, _, h, _ => h.elim
 | .sl β ag T, vs, x, y, H, z => by
  rcases H with ⟨b1, _, H⟩ | ⟨H, Z⟩ <;> rcases z with ⟨b2, _, z⟩ | ⟨z, Y⟩
  ·rw [H] at z
   simp only [List.cons.injEq, AV.imm.injEq, and_true] at z
   exact Kv z.2
  ·rw [H] at z; simp at z
  ·rw [H] at z; simp at z
  ·rw [Z, Y]
 | .el β ag T c, vs, x, y, H, z => by
  obtain ⟨b1, _, H⟩ := H
  obtain ⟨b2, _, z⟩ := z
  rw [H] at z
  simp only [List.cons.injEq, AV.el.injEq, and_true] at z
  exact FQ z.2
 | .ptrI b g c, vs, x, y, H, z => by
  have K : vs = [.ptr b g x c] := H
  have J : vs = [.ptr b g y c] := z
  rw [K] at J; exact (AV.ptr.inj (yx J).1).2.2.1
 | .ms b g, vs, x, y, H, z => by
  have K : vs = [.ms b g (Prod.fst x) (Prod.snd x)] := H
  have J : vs = [.ms b g (Prod.fst y) (Prod.snd y)] := z
  rw [K] at J
  simp only [List.cons.injEq, AV.ms.injEq, and_true, true_and] at J
  exact Prod.ext J.1 J.2
 | .fn f fi ca, vs, x, y, H, z => by
  obtain ⟨a1, O, H, p1, U⟩ := H
  obtain ⟨W, N, z, p2, V⟩ := z
  rw [H] at z
  simp only [List.cons.injEq, AV.fn.injEq, and_true, true_and] at z
  obtain ⟨rfl, rfl⟩ := z
  exact P2.ext (p1.unique p2) (U.unique V)
 | .agg l, vs, x, y, H, z => by
  obtain ⟨O, H, p1⟩ := H
  obtain ⟨N, z, p2⟩ := z
  rw [H] at z
  simp only [List.cons.injEq, AV.agg.injEq, and_true] at z
  subst z
  exact kE.unique (s := l) p1 p2
 | .tup l, vs, x, y, H, z => by
  obtain ⟨O, H, p1⟩ := H
  obtain ⟨N, z, p2⟩ := z
  rw [H] at z
  simp only [List.cons.injEq, AV.tup.injEq, and_true] at z
  subst z
  exact kE.unique (s := l) p1 p2
 | .cons a b, vs, x, y, H, z => by
  obtain ⟨a1, O, H, p1, U⟩ := H
  obtain ⟨W, N, z, p2, V⟩ := z
  rw [H] at z
  simp only [List.cons.injEq] at z
  obtain ⟨rfl, rfl⟩ := z
  exact P2.ext (p1.unique p2) (U.unique V)
def Sh.one : Sh → Bool
 | .nil => false
 | .cons _ _ => false
 | .bnone => false
 | .bts _ _ _ _ _ => false
 | .bcells _ _ _ _ => false
 | _ => true
def Sh.okL : Sh → Bool
 | .cons a b => a.one && a.okL && b.okL
 | .fn _ fi ca => fi.okL && ca.okL
 | .agg l => l.okL
 | .tup l => l.okL
 | .bnone => false
 | .bts _ _ _ _ _ => false
 | .bcells _ _ _ _ => false
 | _ => true
theorem IT {s : Sh} (h : s.one = true) (d : s.den) : ∃ v, dG s d = [v] := by
 cases s <;> first | (cases h; done) | exact ⟨_, rfl⟩
theorem kE.refl : ∀ {s : Sh}, s.okL = true → ∀ d : s.den, kE s (KV.downs (dG s d)) d
 | .int _, _, _ => rfl
 | .bool, _, _ => rfl
 | .str, _, _ => rfl
 | .nilS, _, _ => rfl
 | .nilP, _, _ => rfl
 | .undef, _, _ => rfl
 | .sl β ag T, _, xs => .inl ⟨β, id, rfl⟩
 | .el β ag T c, _, x => ⟨β, id, rfl⟩
 | .ptr _ _ _ _, _, _ => rfl
 | .ptrI _ _ _, _, _ => rfl
 | .ms _ _, _, _ => rfl
 | .msw _ _, _, _ => rfl
 | .fn f K J, h, p => by
  have z : (K.okL && J.okL) = true := h
  rw [yc] at z
  exact ⟨_, _, rfl, kE.refl z.1 _, kE.refl z.2 _⟩
 | .agg l, h, p => ⟨_, rfl, kE.refl (s := l) h p⟩
 | .tup l, h, p => ⟨_, rfl, kE.refl (s := l) h p⟩
 | .nil, _, _ => rfl
 | .bnone, h, _ => by cases h
 | .bts _ _ _ _ _, h, _ => by cases h
 | .bcells _ _ _ _, h, _ => by cases h
 | .cons a b, h, p => by
  have z : (a.one && a.okL && b.okL) = true := h
  simp only [yc] at z
  obtain ⟨v, H⟩ := IT z.1.1 (P2.fst a.dflt _ _ p)
  have e : KV.downs (dG (.cons a b) p) = v.down :: KV.downs (dG b (P2.snd b.dflt _ _ p)) := by
   show KV.downs (dG a (P2.fst a.dflt _ _ p) ++ dG b (P2.snd b.dflt _ _ p)) = _
   rw [H]; rfl
  refine ⟨_, _, e, ?_, kE.refl z.2 _⟩
  have := kE.refl z.1.2 (P2.fst a.dflt _ _ p)
  rw [H] at this
  exact this
end Go.Ab
