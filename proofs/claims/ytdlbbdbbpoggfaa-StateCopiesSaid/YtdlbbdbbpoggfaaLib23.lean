import Derived.Test.YtdlbbdbbpoggfaaLib22
import Derived.Test.YtdlbbdbbpoggfaaLib4
set_option linter.unusedVariables false
set_option linter.unusedSectionVars false
set_option linter.unusedSimpArgs false
namespace Go.Ab
variable [GTab]
theorem P2.ext {A B : Type} {da : A} {db : B} : ∀ {ua ub : Bool} {p q : P2 ua ub A B}, P2.fst da ua ub p = P2.fst da ua ub q → P2.snd db ua ub p = P2.snd db ua ub q → p = q
 | true, true, p, q, h1, h2 => h2
 | true, false, p, q, h1, h2 => h2
 | false, true, p, q, h1, h2 => h1
 | false, false, p, q, h1, h2 => Prod.ext h1 h2
theorem P2.fst_mk {A B : Type} {da : A} : ∀ {ua ub : Bool} (a : A) (b : B), ua = true ∨ P2.fst da ua ub (P2.mk ua ub a b) = a
 | true, _, _, _ => .inl rfl
 | false, true, _, _ => .inr rfl
 | false, false, _, _ => .inr rfl
theorem P2.snd_mk {A B : Type} {db : B} : ∀ {ua ub : Bool} (a : A) (b : B), ub = true ∨ P2.snd db ua ub (P2.mk ua ub a b) = b
 | true, true, _, _ => .inl rfl
 | true, false, _, _ => .inr rfl
 | false, true, _, _ => .inl rfl
 | false, false, _, _ => .inr rfl
theorem zcp : ∀ {s : Sh}, s.un = true → ∀ x y : s.den, x = y
 | .nilS, _, x, y => rfl
 | .nilP, _, x, y => rfl
 | .undef, _, x, y => rfl
 | .ptr _ _ _ _, _, x, y => rfl
 | .msw _ _, _, x, y => rfl
 | .nil, _, x, y => rfl
 | .bnone, _, x, y => rfl
 | .fn f fi ca, h, x, y => by
  have h' : bAnd fi.un ca.un = true := h
  rw [zbZ, yb] at h'
  exact P2.ext (da := fi.dflt) (db := ca.dflt) (zcp h'.1 _ _) (zcp h'.2 _ _)
 | .cons a b, h, x, y => by
  have h' : bAnd a.un b.un = true := h
  rw [zbZ, yb] at h'
  exact P2.ext (da := a.dflt) (db := b.dflt) (zcp h'.1 _ _) (zcp h'.2 _ _)
 | .agg l, h, x, y => zcp (s := l) h x y
 | .tup l, h, x, y => zcp (s := l) h x y
 | .bcells _ _ _ l, h, x, y => zcp (s := l) h x y
 | .int _, h, _, _ => by cases h
 | .bool, h, _, _ => by cases h
 | .str, h, _, _ => by cases h
 | .sl _ _ _, h, _, _ => by cases h
 | .el _ _ _ _, h, _, _ => by cases h
 | .ptrI _ _ _, h, _, _ => by cases h
 | .ms _ _, h, _, _ => by cases h
 | .bts _ _ _ _ _, h, _, _ => by cases h
 | .bos _ _ _ _, h, _, _ => by cases h
theorem fst_mk {a b : Sh} (x : a.den) (y : b.den) : P2.fst a.dflt a.un b.un (P2.mk a.un b.un x y) = x := by
 rcases P2.fst_mk (da := a.dflt) (ua := a.un) (ub := b.un) x y with h | h
 ·exact zcp h _ _
 ·exact h
theorem snd_mk {a b : Sh} (x : a.den) (y : b.den) : P2.snd b.dflt a.un b.un (P2.mk a.un b.un x y) = y := by
 rcases P2.snd_mk (db := b.dflt) (ua := a.un) (ub := b.un) x y with h | h
 ·exact zcp h _ _
 ·exact h
theorem zht {α β : Type} {f : α → β} (hf : ∀ x y, f x = f y → x = y) : ∀ {xs ys : List α}, xs.map f = ys.map f → xs = ys
 | [], [], _ => rfl
 | x :: xs, y :: ys, h => by
  simp only [yu1, List.cons.injEq] at h
  rw [hf _ _ h.1, zht hf h.2]
 | [], _ :: _, h => by cases h
 | _ :: _, [], h => by cases h
theorem zjF {ag : Bool} {T : Ty} (ih : ∀ x y : den T, pvCells T x = pvCells T y → x = y) (x y : den T) (h : pvEl ag T x = pvEl ag T y) : x = y := by
 have := congrArg PV.cells h
 rw [zr, zr] at this
 exact ih x y this
theorem zjn {ag : Bool} {T : Ty} (ih : ∀ x y : den T, pvCells T x = pvCells T y → x = y) {xs ys : List (den T)} (h : pvSl ag T xs = pvSl ag T ys) : xs = ys := by
 cases hi : isIntsK ag T with
 | true =>
  obtain ⟨rfl, k, rfl⟩ := zc.1 hi
  exact (PV.ints.inj h).2
 | false =>
  rw [zo hi, zo hi] at h
  exact zht (zjF ih) (PV.sl.inj h).2
theorem zbi : ∀ {T : Ty} (x y : den T), pvCells T x = pvCells T y → x = y
 | .int k, x, y, h => by
  simp only [pvCells, List.cons.injEq, PV.lit.injEq, and_true] at h; exact (Value.int.inj h).2
 | .bool, x, y, h => by
  simp only [pvCells, List.cons.injEq, PV.lit.injEq, and_true] at h; exact Value.bool.inj h
 | .str, x, y, h => by
  simp only [pvCells, List.cons.injEq, PV.lit.injEq, and_true] at h; exact Value.string.inj h
 | .sl ag T, x, y, h => by
  simp only [pvCells, List.cons.injEq, and_true] at h
  exact zjn (fun x y => zbi x y) h
 | .cons a b, x, y, h => by
  simp only [pvCells] at h
  have hl : (pvCells a (Prod.fst x)).length = (pvCells a (Prod.fst y)).length := by rw [zj, zj]
  obtain ⟨h1, h2⟩ := List.append_inj h hl
  exact Prod.ext (zbi _ _ h1) (zbi _ _ h2)
theorem zhK {ag : Bool} {T : Ty} {x y : den T} (h : pvEl ag T x = pvEl ag T y) : x = y := zjF zbi x y h
theorem zpG {ag : Bool} {T : Ty} {xs ys : List (den T)} (h : pvSl ag T xs = pvSl ag T ys) : xs = ys := zjn zbi h
def LeS : (s : Sh) → List AV → s.den → Prop
 | .int k, vs, x => vs = [.lit (.int k x)]
 | .bool, vs, x => vs = [.lit (.bool x)]
 | .str, vs, x => vs = [.lit (.string x)]
 | .nilS, vs, _ => vs = [.lit (.slice none 0 0)]
 | .nilP, vs, _ => vs = [.lit (.pointer none)]
 | .undef, vs, _ => vs = [.lit (.tuple #[])]
 | .sl β ag T, vs, xs => (∃ β', (β' = true → β = true) ∧ vs = [.imm β' (pvSl ag T xs)]) ∨ (vs = [.lit (.slice none 0 0)] ∧ xs = ([] : List _))
 | .el β ag T c, vs, x => ∃ β', (β' = true → β = true) ∧ vs = [.el β' (pvEl ag T x) c]
 | .ptr b g i c, vs, _ => vs = [.ptr b g i c]
 | .ptrI b g c, vs, i => vs = [.ptr b g i c]
 | .ms b g, vs, p => vs = [.ms b g (Prod.fst p) (Prod.snd p)]
 | .msw b g, vs, _ => vs = [.msw b g]
 | .fn f fi ca, vs, p => ∃ fi' ca', vs = [.fn (.func f) fi' ca'] ∧ LeS fi fi' (P2.fst fi.dflt _ _ p) ∧ LeS ca ca' (P2.snd ca.dflt _ _ p)
 | .agg l, vs, p => ∃ cs, vs = [.agg cs] ∧ LeS l cs p
 | .tup l, vs, p => ∃ cs, vs = [.tup cs] ∧ LeS l cs p
 | .nil, vs, _ => vs = []
 | .cons a b, vs, p => ∃ v r, vs = v :: r ∧ LeS a [v] (P2.fst a.dflt _ _ p) ∧ LeS b r (P2.snd b.dflt _ _ p)
 | .bnone, _, _ => False
 | .bts _ _ _ _ _, _, _ => False
 | .bcells _ _ _ _, _, _ => False
 | .bos _ _ _ _, _, _ => False
theorem zcU (ag : Bool) (T : Ty) (xs : List (den T)) : (pvSl ag T xs).isSl = true := by
 cases hi : isIntsK ag T with
 | true => obtain ⟨rfl, k, rfl⟩ := zc.1 hi; rfl
 | false => rw [zo hi]; rfl
theorem LeS.unique : ∀ {s : Sh} {vs : List AV} {x y : s.den}, LeS s vs x → LeS s vs y → x = y
 | .int k, vs, x, y, h1, h2 => by
  have h1' : vs = [.lit (.int k x)] := h1
  have h2' : vs = [.lit (.int k y)] := h2
  rw [h1'] at h2'; exact (Value.int.inj (AV.lit.inj (yz h2').1)).2
 | .bool, vs, x, y, h1, h2 => by
  have h1' : vs = [.lit (.bool x)] := h1
  have h2' : vs = [.lit (.bool y)] := h2
  rw [h1'] at h2'; exact Value.bool.inj (AV.lit.inj (yz h2').1)
 | .str, vs, x, y, h1, h2 => by
  have h1' : vs = [.lit (.string x)] := h1
  have h2' : vs = [.lit (.string y)] := h2
  rw [h1'] at h2'; exact Value.string.inj (AV.lit.inj (yz h2').1)
 | .nilS, _, _, _, _, _ => rfl
 | .nilP, _, _, _, _, _ => rfl
 | .undef, _, _, _, _, _ => rfl
 | .ptr _ _ _ _, _, _, _, _, _ => rfl
 | .msw _ _, _, _, _, _, _ => rfl
 | .nil, _, _, _, _, _ => rfl
 | .bnone, _, _, _, h, _ => h.elim
 | .bts _ _ _ _ _, _, _, _, h, _ => h.elim
 | .bcells _ _ _ _, _, _, _, h, _ => h.elim
 | .bos _ _ _ _, _, _, _, h, _ => h.elim
 | .sl β ag T, vs, x, y, h1, h2 => by
  rcases h1 with ⟨b1, _, h1⟩ | ⟨h1, e1⟩ <;> rcases h2 with ⟨b2, _, h2⟩ | ⟨h2, e2⟩
  ·rw [h1] at h2
   simp only [List.cons.injEq, AV.imm.injEq, and_true] at h2
   exact zpG h2.2
  ·rw [h1] at h2; simp at h2
  ·rw [h1] at h2; simp at h2
  ·rw [e1, e2]
 | .el β ag T c, vs, x, y, h1, h2 => by
  obtain ⟨b1, _, h1⟩ := h1
  obtain ⟨b2, _, h2⟩ := h2
  rw [h1] at h2
  simp only [List.cons.injEq, AV.el.injEq, and_true] at h2
  exact zhK h2.2
 | .ptrI b g c, vs, x, y, h1, h2 => by
  have h1' : vs = [.ptr b g x c] := h1
  have h2' : vs = [.ptr b g y c] := h2
  rw [h1'] at h2'; exact (AV.ptr.inj (yz h2').1).2.2.1
 | .ms b g, vs, x, y, h1, h2 => by
  have h1' : vs = [.ms b g (Prod.fst x) (Prod.snd x)] := h1
  have h2' : vs = [.ms b g (Prod.fst y) (Prod.snd y)] := h2
  rw [h1'] at h2'
  simp only [List.cons.injEq, AV.ms.injEq, and_true, true_and] at h2'
  exact Prod.ext h2'.1 h2'.2
 | .fn f fi ca, vs, x, y, h1, h2 => by
  obtain ⟨a1, c1, h1, p1, q1⟩ := h1
  obtain ⟨a2, c2, h2, p2, q2⟩ := h2
  rw [h1] at h2
  simp only [List.cons.injEq, AV.fn.injEq, and_true, true_and] at h2
  obtain ⟨rfl, rfl⟩ := h2
  exact P2.ext (p1.unique p2) (q1.unique q2)
 | .agg l, vs, x, y, h1, h2 => by
  obtain ⟨c1, h1, p1⟩ := h1
  obtain ⟨c2, h2, p2⟩ := h2
  rw [h1] at h2
  simp only [List.cons.injEq, AV.agg.injEq, and_true] at h2
  subst h2
  exact LeS.unique (s := l) p1 p2
 | .tup l, vs, x, y, h1, h2 => by
  obtain ⟨c1, h1, p1⟩ := h1
  obtain ⟨c2, h2, p2⟩ := h2
  rw [h1] at h2
  simp only [List.cons.injEq, AV.tup.injEq, and_true] at h2
  subst h2
  exact LeS.unique (s := l) p1 p2
 | .cons a b, vs, x, y, h1, h2 => by
  obtain ⟨a1, c1, h1, p1, q1⟩ := h1
  obtain ⟨a2, c2, h2, p2, q2⟩ := h2
  rw [h1] at h2
  simp only [List.cons.injEq] at h2
  obtain ⟨rfl, rfl⟩ := h2
  exact P2.ext (p1.unique p2) (q1.unique q2)
def Sh.one : Sh → Bool
 | .nil => false
 | .cons _ _ => false
 | .bnone => false
 | .bts _ _ _ _ _ => false
 | .bcells _ _ _ _ => false
 | .bos _ _ _ _ => false
 | _ => true
def Sh.okL : Sh → Bool
 | .cons a b => a.one && a.okL && b.okL
 | .fn _ fi ca => fi.okL && ca.okL
 | .agg l => l.okL
 | .tup l => l.okL
 | .bnone => false
 | .bts _ _ _ _ _ => false
 | .bcells _ _ _ _ => false
 | .bos _ _ _ _ => false
 | _ => true
theorem zkL {s : Sh} (h : s.one = true) (d : s.den) : ∃ v, encS s d = [v] := by
 cases s <;> first | (cases h; done) | exact ⟨_, rfl⟩
theorem LeS.refl : ∀ {s : Sh}, s.okL = true → ∀ d : s.den, LeS s (KV.downs (encS s d)) d
 | .int _, _, _ => rfl
 | .bool, _, _ => rfl
 | .str, _, _ => rfl
 | .nilS, _, _ => rfl
 | .nilP, _, _ => rfl
 | .undef, _, _ => rfl
 | .sl β ag T, _, xs => .inl ⟨β, id, rfl⟩
 | .el β ag T c, _, x => ⟨β, id, rfl⟩
 | .ptr _ _ _ _, _, _ => rfl
 | .ptrI _ _ _, _, _ => rfl
 | .ms _ _, _, _ => rfl
 | .msw _ _, _, _ => rfl
 | .fn f fi ca, h, p => by
  have h' : (fi.okL && ca.okL) = true := h
  rw [yb] at h'
  exact ⟨_, _, rfl, LeS.refl h'.1 _, LeS.refl h'.2 _⟩
 | .agg l, h, p => ⟨_, rfl, LeS.refl (s := l) h p⟩
 | .tup l, h, p => ⟨_, rfl, LeS.refl (s := l) h p⟩
 | .nil, _, _ => rfl
 | .bnone, h, _ => by cases h
 | .bts _ _ _ _ _, h, _ => by cases h
 | .bcells _ _ _ _, h, _ => by cases h
 | .bos _ _ _ _, h, _ => by cases h
 | .cons a b, h, p => by
  have h' : (a.one && a.okL && b.okL) = true := h
  simp only [yb] at h'
  obtain ⟨v, hv⟩ := zkL h'.1.1 (P2.fst a.dflt _ _ p)
  have e : KV.downs (encS (.cons a b) p) = v.down :: KV.downs (encS b (P2.snd b.dflt _ _ p)) := by
   show KV.downs (encS a (P2.fst a.dflt _ _ p) ++ encS b (P2.snd b.dflt _ _ p)) = _
   rw [hv]; rfl
  refine ⟨_, _, e, ?_, LeS.refl h'.2 _⟩
  have := LeS.refl h'.1.2 (P2.fst a.dflt _ _ p)
  rw [hv] at this
  exact this
end Go.Ab
