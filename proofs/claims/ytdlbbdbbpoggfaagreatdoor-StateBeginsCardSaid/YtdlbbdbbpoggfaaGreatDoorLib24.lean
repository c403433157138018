import Derived.Test.YtdlbbdbbpoggfaaGreatDoorLib23
set_option linter.unusedVariables false
set_option linter.unusedSectionVars false
set_option linter.unusedSimpArgs false
namespace Go.Ab
variable [cD]
theorem cP {args : List KV} {v : AV} (h : KV.downs args = [v]) : ∃ u, args = [u] ∧ u.down = v := by
 match args, h with
 | [u], h => exact ⟨u, rfl, (yc1 h).1⟩
 | [], h => cases h
 | _ :: _ :: _, h => cases h
theorem JN {args : List KV} {v : AV} {r : List AV} (h : KV.downs args = v :: r) : ∃ u us, args = u :: us ∧ u.down = v ∧ KV.downs us = r := by
 match args, h with
 | u :: us, h => exact ⟨u, us, rfl, (yc1 h).1, (yc1 h).2⟩
 | [], h => cases h
theorem m9 : ∀ {s : Sh} {args : List KV} {x : s.den}, mL s (KV.downs args) x → k8 s args = true
 | .int k, args, x, h => by
  obtain ⟨u, rfl, z⟩ := cP h
  cases u <;> first | (cases z; done) | skip
  rename_i v
  have z : AV.lit v = .lit (.int k x) := z
  obtain rfl := AV.lit.inj z
  rfl
 | .bool, args, x, h => by
  obtain ⟨u, rfl, z⟩ := cP h
  cases u <;> first | (cases z; done) | skip
  rename_i v
  have z : AV.lit v = .lit (.bool x) := z
  obtain rfl := AV.lit.inj z
  rfl
 | .str, args, x, h => by
  obtain ⟨u, rfl, z⟩ := cP h
  cases u <;> first | (cases z; done) | skip
  rename_i v
  have z : AV.lit v = .lit (.string x) := z
  obtain rfl := AV.lit.inj z
  rfl
 | .nilS, args, x, h => by
  obtain ⟨u, rfl, z⟩ := cP h
  cases u <;> first | (cases z; done) | skip
  rename_i v
  obtain rfl := AV.lit.inj z
  rfl
 | .nilP, args, x, h => by
  obtain ⟨u, rfl, z⟩ := cP h
  cases u <;> first | (cases z; done) | skip
  rename_i v
  obtain rfl := AV.lit.inj z
  rfl
 | .undef, args, x, h => by
  obtain ⟨u, rfl, z⟩ := cP h
  cases u <;> first | (cases z; done) | skip
  rename_i v
  obtain rfl := AV.lit.inj z
  rfl
 | .sl β ag T, args, x, h => by
  rcases h with ⟨β', _, h⟩ | ⟨h, _⟩
  ·obtain ⟨u, rfl, z⟩ := cP h
   have A := pT ag T x
   cases u with
   | tsl _ _ _ _ => rfl
   | dead => rw [← (AV.imm.inj z).2] at A; cases A
   | gone => rw [← (AV.imm.inj z).2] at A; cases A
   | unkB => rw [← (AV.imm.inj z).2] at A; cases A
   | _ => cases z
  ·obtain ⟨u, rfl, z⟩ := cP h
   cases u <;> first | (cases z; done) | skip
   rename_i v
   obtain rfl := AV.lit.inj z
   rfl
 | .el β ag T c, args, x, h => by
  obtain ⟨β', _, h⟩ := h
  obtain ⟨u, rfl, z⟩ := cP h
  cases u <;> first | (cases z; done) | skip
  rename_i c'
  have := (AV.el.inj z).2.2
  subst this
  exact cU.2 rfl
 | .ptr b g i c, args, x, h => by
  obtain ⟨u, rfl, z⟩ := cP h
  cases u <;> first | (cases z; done) | skip
  obtain ⟨rfl, rfl, rfl, rfl⟩ := AV.ptr.inj z
  show (gS _ _ && gS _ _ && gS _ _ && gS _ _) = true
  simp [cU]
 | .ptrI b g c, args, x, h => by
  obtain ⟨u, rfl, z⟩ := cP h
  cases u <;> first | (cases z; done) | skip
  obtain ⟨rfl, rfl, _, rfl⟩ := AV.ptr.inj z
  show (gS _ _ && gS _ _ && gS _ _) = true
  simp [cU]
 | .ms b g, args, x, h => by
  obtain ⟨u, rfl, z⟩ := cP h
  cases u <;> first | (cases z; done) | skip
  obtain ⟨rfl, rfl, _, _⟩ := AV.ms.inj z
  show (gS _ _ && gS _ _) = true
  simp [cU]
 | .msw b g, args, x, h => by
  obtain ⟨u, rfl, z⟩ := cP h
  cases u <;> first | (cases z; done) | skip
  obtain ⟨rfl, rfl⟩ := AV.msw.inj z
  show (gS _ _ && gS _ _) = true
  simp [cU]
 | .fn f M K, args, x, h => by
  obtain ⟨H, J, h, h1, h2⟩ := h
  obtain ⟨u, rfl, z⟩ := cP h
  cases u <;> first | (cases z; done) | skip
  obtain ⟨rfl, rfl, rfl⟩ := AV.fn.inj z
  show (gS f f && k8 M _ && k8 K _) = true
  simp [cU, m9 h1, m9 h2]
 | .agg l, args, x, h => by
  obtain ⟨cs, h, h1⟩ := h
  obtain ⟨u, rfl, z⟩ := cP h
  cases u <;> first | (cases z; done) | skip
  obtain rfl := AV.agg.inj z
  exact m9 (s := l) h1
 | .tup l, args, x, h => by
  obtain ⟨cs, h, h1⟩ := h
  obtain ⟨u, rfl, z⟩ := cP h
  cases u <;> first | (cases z; done) | skip
  obtain rfl := AV.tup.inj z
  exact m9 (s := l) h1
 | .nil, args, x, h => by
  cases args with
  | nil => rfl
  | cons _ _ => cases h
 | .cons a b, args, x, h => by
  obtain ⟨v, r, h, h1, h2⟩ := h
  obtain ⟨u, us, rfl, rfl, rfl⟩ := JN h
  show (k8 a [u] && k8 b us) = true
  rw [yc]
  exact ⟨m9 (s := a) (args := [u]) h1, m9 h2⟩
 | .bnone, args, x, h => h.elim
 | .bts _ _ _ _ _, args, x, h => h.elim
 | .bcells _ _ _ _, args, x, h => h.elim
def Sh.oneM : Sh → Bool
 | .bnone => true
 | .bts _ _ _ _ _ => true
 | .bcells _ _ _ _ => true
 | _ => false
def Sh.okM : Sh → Bool
 | .nil => true
 | .cons a b => a.oneM && a.okM && b.okM
 | .bnone => true
 | .bts _ _ _ _ _ => true
 | .bcells _ _ _ l => l.okL
 | _ => false
theorem CG {s : Sh} (h : s.oneM = true) (d : s.den) : ∃ x, fV s d = [x] := by
 cases s <;> first | (cases h; done) | exact ⟨_, rfl⟩
theorem Ko {β ag : Bool} {T : Ty} {xs ys : List (den T)} (h : (KRow.ts β ag T xs).down = (KRow.ts β ag T ys).down) : xs = ys := by
 cases z : bT ag T with
 | true =>
  obtain ⟨rfl, k, rfl⟩ := aX.1 z
  exact (cI.ints.inj h).2
 | false =>
  rw [KRow.down_sl z, KRow.down_sl z] at h
  exact Gv (fun x y => Jb) (cI.pvs.inj h).2.2
theorem Eu : ∀ {s : Sh} {x y : s.den}, s.okM = true → aF (fV s x) = aF (fV s y) → x = y
 | .nil, x, y, _, _ => rfl
 | .bnone, x, y, _, _ => rfl
 | .bts gen frz β ag T, x, y, _, h => by
  have h := yb (yc1 h).1
  exact Ko (congrArg d8.row h)
 | .bcells gen frz e l, x, y, A, h => by
  have h := yb (yc1 h).1
  have h1 : cI.cells e (KV.downs (eY l x)) = .cells e (KV.downs (eY l y)) := congrArg d8.row h
  have h2 := (cI.cells.inj h1).2
  have r1 := mL.refl (s := l) A x
  have N := mL.refl (s := l) A y
  rw [h2] at r1
  exact mL.unique (s := l) r1 N
 | .cons a b, x, y, A, h => by
  have H : (a.oneM && a.okM && b.okM) = true := A
  simp only [yc] at H
  have K : aF (fV a (P2.fst a.dflt a.un b.un x) ++ fV b (P2.snd b.dflt a.un b.un x)) = aF (fV a (P2.fst a.dflt a.un b.un y) ++ fV b (P2.snd b.dflt a.un b.un y)) := h
  obtain ⟨u, O⟩ := CG H.1.1 (P2.fst a.dflt a.un b.un x)
  obtain ⟨v, M⟩ := CG H.1.1 (P2.fst a.dflt a.un b.un y)
  have J : aF (fV a (P2.fst a.dflt a.un b.un x)) = aF (fV a (P2.fst a.dflt a.un b.un y)) ∧ aF (fV b (P2.snd b.dflt a.un b.un x)) = aF (fV b (P2.snd b.dflt a.un b.un y)) := by
   rw [O, M] at K ⊢
   have := yc1 K
   exact ⟨congrArg (fun z => [z]) this.1, this.2⟩
  exact P2.ext (Eu H.1.2 J.1) (Eu H.2 J.2)
 | .int _, x, y, A, h | .bool, x, y, A, h | .str, x, y, A, h | .nilS, x, y, A, h | .nilP, x, y, A, h | .undef, x, y, A, h | .sl _ _ _, x, y, A, h | .el _ _ _ _, x, y, A, h | .ptr _ _ _ _, x, y, A, h
 | .ptrI _ _ _, x, y, A, h | .ms _ _, x, y, A, h | .msw _ _, x, y, A, h | .fn _ _ _, x, y, A, h | .agg _, x, y, A, h | .tup _, x, y, A, h => by cases A
theorem AI {mem : aR} {v : Option d8} (h : aF mem = [v]) : ∃ u, mem = [u] ∧ u.map fG.down = v := by
 match mem, h with
 | [u], h => exact ⟨u, rfl, (yc1 h).1⟩
 | [], h => cases h
 | _ :: _ :: _, h => cases h
theorem Dk : ∀ {s : Sh} {mem : aR} {x : s.den}, s.okM = true → aF mem = aF (fV s x) → Bz s mem = true
 | .nil, mem, x, _, h => by
  cases mem with
  | nil => rfl
  | cons _ _ => cases h
 | .bnone, mem, x, _, h => by
  obtain ⟨u, rfl, H⟩ := AI (v := none) h
  cases u with
  | none => rfl
  | some _ => cases H
 | .bts gen frz β ag T, mem, x, _, h => by
  obtain ⟨u, rfl, H⟩ := AI h
  cases u with
  | none => cases H
  | some u =>
   have H := yb H
   obtain ⟨g', J, row⟩ := u
   have h1 : g' = gen := congrArg d8.gen H
   have h2 : J = frz := congrArg d8.frz H
   have M : row.down = (KRow.ts β ag T x).down := congrArg d8.row H
   subst h1; subst h2
   cases row with
   | ts β' N V xs =>
    show (gS g' g' && fT J J) = true
    cases J <;> simp [cU, fT]
   | cells e cs =>
    exfalso
    have := congrArg cI.isCells M
    rw [eW, eW] at this
    cases this
 | .bcells gen frz e l, mem, x, A, h => by
  obtain ⟨u, rfl, H⟩ := AI h
  cases u with
  | none => cases H
  | some u =>
   have H := yb H
   obtain ⟨g', J, row⟩ := u
   have h1 : g' = gen := congrArg d8.gen H
   have h2 : J = frz := congrArg d8.frz H
   have M : row.down = (KRow.cells e (eY l x)).down := congrArg d8.row H
   subst h1; subst h2
   cases row with
   | ts β' N V xs =>
    exfalso
    have := congrArg cI.isCells M
    rw [eW, eW] at this
    cases this
   | cells U cs =>
    obtain ⟨W, Y⟩ := cI.cells.inj M
    subst W
    have r1 := mL.refl (s := l) A x
    rw [← Y] at r1
    show (gS g' g' && fT J J && gS U U && k8 l cs) = true
    have := m9 (s := l) r1
    cases J <;> simp [cU, fT, this]
 | .cons a b, mem, x, A, h => by
  have K : (a.oneM && a.okM && b.okM) = true := A
  simp only [yc] at K
  obtain ⟨u, H⟩ := CG K.1.1 (P2.fst a.dflt a.un b.un x)
  have O : aF mem = aF (fV a (P2.fst a.dflt a.un b.un x) ++ fV b (P2.snd b.dflt a.un b.un x)) := h
  rw [H] at O
  cases mem with
  | nil => cases O
  | cons y r =>
   have := yc1 O
   show (Bz a [y] && Bz b r) = true
   rw [yc]
   refine ⟨Dk (s := a) (x := P2.fst a.dflt a.un b.un x) K.1.2 ?_, Dk K.2 this.2⟩
   rw [H]
   exact congrArg (fun z => [z]) this.1
 | .int _, m, x, A, h | .bool, m, x, A, h | .str, m, x, A, h | .nilS, m, x, A, h | .nilP, m, x, A, h | .undef, m, x, A, h | .sl _ _ _, m, x, A, h | .el _ _ _ _, m, x, A, h | .ptr _ _ _ _, m, x, A, h
 | .ptrI _ _ _, m, x, A, h | .ms _ _, m, x, A, h | .msw _ _, m, x, A, h | .fn _ _ _, m, x, A, h | .agg _, m, x, A, h | .tup _, m, x, A, h => by cases A
end Go.Ab
