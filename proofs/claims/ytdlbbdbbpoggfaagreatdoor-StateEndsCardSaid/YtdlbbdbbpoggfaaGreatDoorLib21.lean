import Derived.Test.YtdlbbdbbpoggfaaGreatDoorLib20
import Derived.Test.YtdlbbdbbpoggfaaGreatDoorLib3
set_option linter.unusedVariables false
set_option linter.unusedSectionVars false
set_option linter.unusedSimpArgs false
namespace Go.Ab
variable [cD]
theorem P2.ext {A B : Type} {da : A} {db : B} : ∀ {ua ub : Bool} {p q : P2 ua ub A B}, P2.fst da ua ub p = P2.fst da ua ub q → P2.snd db ua ub p = P2.snd db ua ub q → p = q
 | true, true, p, q, h1, h2 => h2
 | true, false, p, q, h1, h2 => h2
 | false, true, p, q, h1, h2 => h1
 | false, false, p, q, h1, h2 => Prod.ext h1 h2
theorem P2.fst_mk {A B : Type} {da : A} : ∀ {ua ub : Bool} (a : A) (b : B), ua = true ∨ P2.fst da ua ub (P2.mk ua ub a b) = a
 | true, _, _, _ => .inl rfl
 | false, true, _, _ => .inr rfl
 | false, false, _, _ => .inr rfl
theorem P2.snd_mk {A B : Type} {db : B} : ∀ {ua ub : Bool} (a : A) (b : B), ub = true ∨ P2.snd db ua ub (P2.mk ua ub a b) = b
 | true, true, _, _ => .inl rfl
 | true, false, _, _ => .inr rfl
 | false, true, _, _ => .inl rfl
 | false, false, _, _ => .inr rfl
theorem pY : ∀ {s : Sh}, s.un = true → ∀ x y : s.den, x = y
 | .nilS, _, x, y => rfl
 | .nilP, _, x, y => rfl
 | .undef, _, x, y => rfl
 | .ptr _ _ _ _, _, x, y => rfl
 | .msw _ _, _, x, y => rfl
 | .nil, _, x, y => rfl
 | .bnone, _, x, y => rfl
 | .fn f H A, h, x, y => by
  have z : Fa H.un A.un = true := h
  rw [nG, yc] at z
  exact P2.ext (da := H.dflt) (db := A.dflt) (pY z.1 _ _) (pY z.2 _ _)
 | .cons a b, h, x, y => by
  have z : Fa a.un b.un = true := h
  rw [nG, yc] at z
  exact P2.ext (da := a.dflt) (db := b.dflt) (pY z.1 _ _) (pY z.2 _ _)
 | .agg l, h, x, y => pY (s := l) h x y
 | .tup l, h, x, y => pY (s := l) h x y
 | .bcells _ _ _ l, h, x, y => pY (s := l) h x y
 | .int _, h, _, _ => by cases h
 | .bool, h, _, _ => by cases h
 | .str, h, _, _ => by cases h
 | .sl _ _ _, h, _, _ => by cases h
 | .el _ _ _ _, h, _, _ => by cases h
 | .ptrI _ _ _, h, _, _ => by cases h
 | .ms _ _, h, _, _ => by cases h
 | .bts _ _ _ _ _, h, _, _ => by cases h
theorem fst_mk {a b : Sh} (x : a.den) (y : b.den) : P2.fst a.dflt a.un b.un (P2.mk a.un b.un x y) = x := by
 rcases P2.fst_mk (da := a.dflt) (ua := a.un) (ub := b.un) x y with h | h
 ·exact pY h _ _
 ·exact h
theorem snd_mk {a b : Sh} (x : a.den) (y : b.den) : P2.snd b.dflt a.un b.un (P2.mk a.un b.un x y) = y := by
 rcases P2.snd_mk (db := b.dflt) (ua := a.un) (ub := b.un) x y with h | h
 ·exact pY h _ _
 ·exact h
theorem Gv {α β : Type} {f : α → β} (hf : ∀ x y, f x = f y → x = y) : ∀ {xs ys : List α}, xs.map f = ys.map f → xs = ys
 | [], [], _ => rfl
 | x :: xs, y :: ys, h => by
  simp only [yh2, List.cons.injEq] at h
  rw [hf _ _ h.1, Gv hf h.2]
 | [], _ :: _, h => by cases h
 | _ :: _, [], h => by cases h
theorem Gf {ag : Bool} {T : Ty} (z : ∀ x y : den T, aV T x = aV T y → x = y) (x y : den T) (h : fK ag T x = fK ag T y) : x = y := by
 have := congrArg PV.cells h
 rw [dI, dI] at this
 exact z x y this
theorem FI {ag : Bool} {T : Ty} (A : ∀ x y : den T, aV T x = aV T y → x = y) {xs ys : List (den T)} (h : iB ag T xs = iB ag T ys) : xs = ys := by
 cases z : bT ag T with
 | true =>
  obtain ⟨rfl, k, rfl⟩ := aX.1 z
  exact (PV.ints.inj h).2
 | false =>
  rw [d7 z, d7 z] at h
  exact Gv (Gf A) (PV.sl.inj h).2
theorem kD : ∀ {T : Ty} (x y : den T), aV T x = aV T y → x = y
 | .int k, x, y, h => by
  simp only [aV, List.cons.injEq, PV.lit.injEq, and_true] at h; exact (Value.int.inj h).2
 | .bool, x, y, h => by
  simp only [aV, List.cons.injEq, PV.lit.injEq, and_true] at h; exact Value.bool.inj h
 | .str, x, y, h => by
  simp only [aV, List.cons.injEq, PV.lit.injEq, and_true] at h; exact Value.string.inj h
 | .sl ag T, x, y, h => by
  simp only [aV, List.cons.injEq, and_true] at h
  exact FI (fun x y => kD x y) h
 | .cons a b, x, y, h => by
  simp only [aV] at h
  have hl : (aV a (Prod.fst x)).length = (aV a (Prod.fst y)).length := by rw [bO, bO]
  obtain ⟨h1, h2⟩ := List.append_inj h hl
  exact Prod.ext (kD _ _ h1) (kD _ _ h2)
theorem Jb {ag : Bool} {T : Ty} {x y : den T} (h : fK ag T x = fK ag T y) : x = y := Gf kD x y h
theorem M7 {ag : Bool} {T : Ty} {xs ys : List (den T)} (h : iB ag T xs = iB ag T ys) : xs = ys := FI kD h
def mL : (s : Sh) → List AV → s.den → Prop
 | .int k, vs, x => vs = [.lit (.int k x)]
 | .bool, vs, x => vs = [.lit (.bool x)]
 | .str, vs, x => vs = [.lit (.string x)]
 | .nilS, vs, _ => vs = [.lit (.slice none 0 0)]
 | .nilP, vs, _ => vs = [.lit (.pointer none)]
 | .undef, vs, _ => vs = [.lit (.tuple #[])]
 | .sl β ag T, vs, xs => (∃ β', (β' = true → β = true) ∧ vs = [.imm β' (iB ag T xs)]) ∨ (vs = [.lit (.slice none 0 0)] ∧ xs = ([] : List _))
 | .el β ag T c, vs, x => ∃ β', (β' = true → β = true) ∧ vs = [.el β' (fK ag T x) c]
 | .ptr b g i c, vs, _ => vs = [.ptr b g i c]
 | .ptrI b g c, vs, i => vs = [.ptr b g i c]
 | .ms b g, vs, p => vs = [.ms b g (Prod.fst p) (Prod.snd p)]
 | .msw b g, vs, _ => vs = [.msw b g]
 | .fn f fi ca, vs, p => ∃ fi' ca', vs = [.fn (.func f) fi' ca'] ∧ mL fi fi' (P2.fst fi.dflt _ _ p) ∧ mL ca ca' (P2.snd ca.dflt _ _ p)
 | .agg l, vs, p => ∃ cs, vs = [.agg cs] ∧ mL l cs p
 | .tup l, vs, p => ∃ cs, vs = [.tup cs] ∧ mL l cs p
 | .nil, vs, _ => vs = []
 | .cons a b, vs, p => ∃ v r, vs = v :: r ∧ mL a [v] (P2.fst a.dflt _ _ p) ∧ mL b r (P2.snd b.dflt _ _ p)
 | .bnone, _, _ => False
 | .bts _ _ _ _ _, _, _ => False
 | .bcells _ _ _ _, _, _ => False
theorem pT (ag : Bool) (T : Ty) (xs : List (den T)) : (iB ag T xs).isSl = true := by
 cases h : bT ag T with
 | true => obtain ⟨rfl, k, rfl⟩ := aX.1 h; rfl
 | false => rw [d7 h]; rfl
theorem mL.unique : ∀ {s : Sh} {vs : List AV} {x y : s.den}, mL s vs x → mL s vs y → x = y
 | .int k, vs, x, y, h1, h2 => by
  have A : vs = [.lit (.int k x)] := h1
  have z : vs = [.lit (.int k y)] := h2
  rw [A] at z; exact (Value.int.inj (AV.lit.inj (yc1 z).1)).2
 | .bool, vs, x, y, h1, h2 => by
  have A : vs = [.lit (.bool x)] := h1
  have z : vs = [.lit (.bool y)] := h2
  rw [A] at z; exact Value.bool.inj (AV.lit.inj (yc1 z).1)
 | .str, vs, x, y, h1, h2 => by
  have A : vs = [.lit (.string x)] := h1
  have z : vs = [.lit (.string y)] := h2
  rw [A] at z; exact Value.string.inj (AV.lit.inj (yc1 z).1)
 | .nilS, _, _, _, _, _ => rfl
 | .nilP, _, _, _, _, _ => rfl
 | .undef, _, _, _, _, _ => rfl
 | .ptr _ _ _ _, _, _, _, _, _ => rfl
 | .msw _ _, _, _, _, _, _ => rfl
 | .nil, _, _, _, _, _ => rfl
 | .bnone, _, _, _, h, _ => h.elim
 | .bts _ _ _ _ _, _, _, _, h, _ => h.elim
 | .bcells _ _ _ _, _, _, _, h, _ => h.elim
 | .sl β ag T, vs, x, y, h1, h2 => by
  rcases h1 with ⟨Y, _, h1⟩ | ⟨h1, Z⟩ <;> rcases h2 with ⟨V, _, h2⟩ | ⟨h2, W⟩
  ·rw [h1] at h2
   simp only [List.cons.injEq, AV.imm.injEq, and_true] at h2
   exact M7 h2.2
  ·rw [h1] at h2; simp at h2
  ·rw [h1] at h2; simp at h2
  ·rw [Z, W]
 | .el β ag T c, vs, x, y, h1, h2 => by
  obtain ⟨Y, _, h1⟩ := h1
  obtain ⟨V, _, h2⟩ := h2
  rw [h1] at h2
  simp only [List.cons.injEq, AV.el.injEq, and_true] at h2
  exact Jb h2.2
 | .ptrI b g c, vs, x, y, h1, h2 => by
  have A : vs = [.ptr b g x c] := h1
  have z : vs = [.ptr b g y c] := h2
  rw [A] at z; exact (AV.ptr.inj (yc1 z).1).2.2.1
 | .ms b g, vs, x, y, h1, h2 => by
  have A : vs = [.ms b g (Prod.fst x) (Prod.snd x)] := h1
  have z : vs = [.ms b g (Prod.fst y) (Prod.snd y)] := h2
  rw [A] at z
  simp only [List.cons.injEq, AV.ms.injEq, and_true, true_and] at z
  exact Prod.ext z.1 z.2
 | .fn f fi ca, vs, x, y, h1, h2 => by
  obtain ⟨a1, M, h1, J, K⟩ := h1
  obtain ⟨U, O, h2, H, N⟩ := h2
  rw [h1] at h2
  simp only [List.cons.injEq, AV.fn.injEq, and_true, true_and] at h2
  obtain ⟨rfl, rfl⟩ := h2
  exact P2.ext (J.unique H) (K.unique N)
 | .agg l, vs, x, y, h1, h2 => by
  obtain ⟨M, h1, J⟩ := h1
  obtain ⟨O, h2, H⟩ := h2
  rw [h1] at h2
  simp only [List.cons.injEq, AV.agg.injEq, and_true] at h2
  subst h2
  exact mL.unique (s := l) J H
 | .tup l, vs, x, y, h1, h2 => by
  obtain ⟨M, h1, J⟩ := h1
  obtain ⟨O, h2, H⟩ := h2
  rw [h1] at h2
  simp only [List.cons.injEq, AV.tup.injEq, and_true] at h2
  subst h2
  exact mL.unique (s := l) J H
 | .cons a b, vs, x, y, h1, h2 => by
  obtain ⟨a1, M, h1, J, K⟩ := h1
  obtain ⟨U, O, h2, H, N⟩ := h2
  rw [h1] at h2
  simp only [List.cons.injEq] at h2
  obtain ⟨rfl, rfl⟩ := h2
  exact P2.ext (J.unique H) (K.unique N)
def Sh.one : Sh → Bool
 | .nil => false
 | .cons _ _ => false
 | .bnone => false
 | .bts _ _ _ _ _ => false
 | .bcells _ _ _ _ => false
 | _ => true
def Sh.okL : Sh → Bool
 | .cons a b => a.one && a.okL && b.okL
 | .fn _ fi ca => fi.okL && ca.okL
 | .agg l => l.okL
 | .tup l => l.okL
 | .bnone => false
 | .bts _ _ _ _ _ => false
 | .bcells _ _ _ _ => false
 | _ => true
theorem KB {s : Sh} (h : s.one = true) (d : s.den) : ∃ v, eY s d = [v] := by
 cases s <;> first | (cases h; done) | exact ⟨_, rfl⟩
theorem mL.refl : ∀ {s : Sh}, s.okL = true → ∀ d : s.den, mL s (KV.downs (eY s d)) d
 | .int _, _, _ => rfl
 | .bool, _, _ => rfl
 | .str, _, _ => rfl
 | .nilS, _, _ => rfl
 | .nilP, _, _ => rfl
 | .undef, _, _ => rfl
 | .sl β ag T, _, xs => .inl ⟨β, id, rfl⟩
 | .el β ag T c, _, x => ⟨β, id, rfl⟩
 | .ptr _ _ _ _, _, _ => rfl
 | .ptrI _ _ _, _, _ => rfl
 | .ms _ _, _, _ => rfl
 | .msw _ _, _, _ => rfl
 | .fn f J H, h, p => by
  have z : (J.okL && H.okL) = true := h
  rw [yc] at z
  exact ⟨_, _, rfl, mL.refl z.1 _, mL.refl z.2 _⟩
 | .agg l, h, p => ⟨_, rfl, mL.refl (s := l) h p⟩
 | .tup l, h, p => ⟨_, rfl, mL.refl (s := l) h p⟩
 | .nil, _, _ => rfl
 | .bnone, h, _ => by cases h
 | .bts _ _ _ _ _, h, _ => by cases h
 | .bcells _ _ _ _, h, _ => by cases h
 | .cons a b, h, p => by
  have z : (a.one && a.okL && b.okL) = true := h
  simp only [yc] at z
  obtain ⟨v, A⟩ := KB z.1.1 (P2.fst a.dflt _ _ p)
  have e : KV.downs (eY (.cons a b) p) = v.down :: KV.downs (eY b (P2.snd b.dflt _ _ p)) := by
   show KV.downs (eY a (P2.fst a.dflt _ _ p) ++ eY b (P2.snd b.dflt _ _ p)) = _
   rw [A]; rfl
  refine ⟨_, _, e, ?_, mL.refl z.2 _⟩
  have := mL.refl z.1.2 (P2.fst a.dflt _ _ p)
  rw [A] at this
  exact this
end Go.Ab
