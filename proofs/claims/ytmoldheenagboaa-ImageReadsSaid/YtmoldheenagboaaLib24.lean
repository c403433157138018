import Derived.Test.YtmoldheenagboaaLib23
set_option linter.unusedVariables false
set_option linter.unusedSectionVars false
set_option linter.unusedSimpArgs false
namespace Go.Ab
variable [b8]
theorem cD {args : List KV} {v : AV} (h : KV.downs args = [v]) : ∃ u, args = [u] ∧ u.down = v := by
 match args, h with
 | [u], h => exact ⟨u, rfl, (yx h).1⟩
 | [], h => cases h
 | _ :: _ :: _, h => cases h
theorem Hv {args : List KV} {v : AV} {r : List AV} (h : KV.downs args = v :: r) : ∃ u us, args = u :: us ∧ u.down = v ∧ KV.downs us = r := by
 match args, h with
 | u :: us, h => exact ⟨u, us, rfl, (yx h).1, (yx h).2⟩
 | [], h => cases h
theorem lL : ∀ {s : Sh} {args : List KV} {x : s.den}, kE s (KV.downs args) x → j1 s args = true
 | .int k, args, x, h => by
  obtain ⟨u, rfl, z⟩ := cD h
  cases u <;> first | (cases z; done) | skip
  rename_i v
  have z : AV.lit v = .lit (.int k x) := z
  obtain rfl := AV.lit.inj z
  rfl
 | .bool, args, x, h => by
  obtain ⟨u, rfl, z⟩ := cD h
  cases u <;> first | (cases z; done) | skip
  rename_i v
  have z : AV.lit v = .lit (.bool x) := z
  obtain rfl := AV.lit.inj z
  rfl
 | .str, args, x, h => by
  obtain ⟨u, rfl, z⟩ := cD h
  cases u <;> first | (cases z; done) | skip
  rename_i v
  have z : AV.lit v = .lit (.string x) := z
  obtain rfl := AV.lit.inj z
  rfl
 | .nilS, args, x, h => by
  obtain ⟨u, rfl, z⟩ := cD h
  cases u <;> first | (cases z; done) | skip
  rename_i v
  obtain rfl := AV.lit.inj z
  rfl
 | .nilP, args, x, h => by
  obtain ⟨u, rfl, z⟩ := cD h
  cases u <;> first | (cases z; done) | skip
  rename_i v
  obtain rfl := AV.lit.inj z
  rfl
 | .undef, args, x, h => by
  obtain ⟨u, rfl, z⟩ := cD h
  cases u <;> first | (cases z; done) | skip
  rename_i v
  obtain rfl := AV.lit.inj z
  rfl
 | .sl β ag T, args, x, h => by
  rcases h with ⟨β', _, h⟩ | ⟨h, _⟩
  ·obtain ⟨u, rfl, z⟩ := cD h
   have J := nJ ag T x
   cases u with
   | tsl _ _ _ _ => rfl
   | dead => rw [← (AV.imm.inj z).2] at J; cases J
   | gone => rw [← (AV.imm.inj z).2] at J; cases J
   | unkB => rw [← (AV.imm.inj z).2] at J; cases J
   | _ => cases z
  ·obtain ⟨u, rfl, z⟩ := cD h
   cases u <;> first | (cases z; done) | skip
   rename_i v
   obtain rfl := AV.lit.inj z
   rfl
 | .el β ag T c, args, x, h => by
  obtain ⟨β', _, h⟩ := h
  obtain ⟨u, rfl, z⟩ := cD h
  cases u <;> first | (cases z; done) | skip
  rename_i c'
  have := (AV.el.inj z).2.2
  subst this
  exact cH.2 rfl
 | .ptr b g i c, args, x, h => by
  obtain ⟨u, rfl, z⟩ := cD h
  cases u <;> first | (cases z; done) | skip
  obtain ⟨rfl, rfl, rfl, rfl⟩ := AV.ptr.inj z
  show (fY _ _ && fY _ _ && fY _ _ && fY _ _) = true
  simp [cH]
 | .ptrI b g c, args, x, h => by
  obtain ⟨u, rfl, z⟩ := cD h
  cases u <;> first | (cases z; done) | skip
  obtain ⟨rfl, rfl, _, rfl⟩ := AV.ptr.inj z
  show (fY _ _ && fY _ _ && fY _ _) = true
  simp [cH]
 | .ms b g, args, x, h => by
  obtain ⟨u, rfl, z⟩ := cD h
  cases u <;> first | (cases z; done) | skip
  obtain ⟨rfl, rfl, _, _⟩ := AV.ms.inj z
  show (fY _ _ && fY _ _) = true
  simp [cH]
 | .msw b g, args, x, h => by
  obtain ⟨u, rfl, z⟩ := cD h
  cases u <;> first | (cases z; done) | skip
  obtain ⟨rfl, rfl⟩ := AV.msw.inj z
  show (fY _ _ && fY _ _) = true
  simp [cH]
 | .fn f V N, args, x, h => by
  obtain ⟨U, O, h, H, K⟩ := h
  obtain ⟨u, rfl, z⟩ := cD h
  cases u <;> first | (cases z; done) | skip
  obtain ⟨rfl, rfl, rfl⟩ := AV.fn.inj z
  show (fY f f && j1 V _ && j1 N _) = true
  simp [cH, lL H, lL K]
 | .agg l, args, x, h => by
  obtain ⟨cs, h, H⟩ := h
  obtain ⟨u, rfl, z⟩ := cD h
  cases u <;> first | (cases z; done) | skip
  obtain rfl := AV.agg.inj z
  exact lL (s := l) H
 | .tup l, args, x, h => by
  obtain ⟨cs, h, H⟩ := h
  obtain ⟨u, rfl, z⟩ := cD h
  cases u <;> first | (cases z; done) | skip
  obtain rfl := AV.tup.inj z
  exact lL (s := l) H
 | .nil, args, x, h => by
  cases args with
  | nil => rfl
  | cons _ _ => cases h
 | .cons a b, args, x, h => by
  obtain ⟨v, r, h, H, K⟩ := h
  obtain ⟨u, us, rfl, rfl, rfl⟩ := Hv h
  show (j1 a [u] && j1 b us) = true
  rw [yc]
  exact ⟨lL (s := a) (args := [u]) H, lL K⟩
 | .bnone, args, x, h => h.elim
 | .bts _ _ _ _ _, args, x, h => h.elim
 | .bcells _ _ _ _, args, x, h => h.elim
def Sh.oneM : Sh → Bool
 | .bnone => true
 | .bts _ _ _ _ _ => true
 | .bcells _ _ _ _ => true
 | _ => false
def Sh.okM : Sh → Bool
 | .nil => true
 | .cons a b => a.oneM && a.okM && b.okM
 | .bnone => true
 | .bts _ _ _ _ _ => true
 | .bcells _ _ _ l => l.okL
 | _ => false
theorem CP {s : Sh} (h : s.oneM = true) (d : s.den) : ∃ x, eH s d = [x] := by
 cases s <;> first | (cases h; done) | exact ⟨_, rfl⟩
theorem Ik {β ag : Bool} {T : Ty} {xs H : List (den T)} (h : (KRow.ts β ag T xs).down = (KRow.ts β ag T H).down) : xs = H := by
 cases z : bP ag T with
 | true =>
  obtain ⟨rfl, k, rfl⟩ := aT.1 z
  exact (Row.ints.inj h).2
 | false =>
  rw [KRow.down_sl z, KRow.down_sl z] at h
  exact Fi (fun x y => FQ) (Row.pvs.inj h).2.2
theorem Cn : ∀ {s : Sh} {x y : s.den}, s.okM = true → aB (eH s x) = aB (eH s y) → x = y
 | .nil, x, y, _, _ => rfl
 | .bnone, x, y, _, _ => rfl
 | .bts gen frz β ag T, x, y, _, h => by
  have h := ya (yx h).1
  exact Ik (congrArg c7.row h)
 | .bcells gen frz e l, x, y, H, h => by
  have h := ya (yx h).1
  have U : Row.cells e (KV.downs (dG l x)) = .cells e (KV.downs (dG l y)) := congrArg c7.row h
  have Y := (Row.cells.inj U).2
  have r1 := kE.refl (s := l) H x
  have O := kE.refl (s := l) H y
  rw [Y] at r1
  exact kE.unique (s := l) r1 O
 | .cons a b, x, y, H, h => by
  have J : (a.oneM && a.okM && b.okM) = true := H
  simp only [yc] at J
  have N : aB (eH a (P2.fst a.dflt a.un b.un x) ++ eH b (P2.snd b.dflt a.un b.un x)) = aB (eH a (P2.fst a.dflt a.un b.un y) ++ eH b (P2.snd b.dflt a.un b.un y)) := h
  obtain ⟨u, V⟩ := CP J.1.1 (P2.fst a.dflt a.un b.un x)
  obtain ⟨v, W⟩ := CP J.1.1 (P2.fst a.dflt a.un b.un y)
  have K : aB (eH a (P2.fst a.dflt a.un b.un x)) = aB (eH a (P2.fst a.dflt a.un b.un y)) ∧ aB (eH b (P2.snd b.dflt a.un b.un x)) = aB (eH b (P2.snd b.dflt a.un b.un y)) := by
   rw [V, W] at N ⊢
   have := yx N
   exact ⟨congrArg (fun z => [z]) this.1, this.2⟩
  exact P2.ext (Cn J.1.2 K.1) (Cn J.2 K.2)
 | .int _, x, y, H, h | .bool, x, y, H, h | .str, x, y, H, h | .nilS, x, y, H, h | .nilP, x, y, H, h | .undef, x, y, H, h | .sl _ _ _, x, y, H, h | .el _ _ _ _, x, y, H, h | .ptr _ _ _ _, x, y, H, h
 | .ptrI _ _ _, x, y, H, h | .ms _ _, x, y, H, h | .msw _ _, x, y, H, h | .fn _ _ _, x, y, H, h | .agg _, x, y, H, h | .tup _, x, y, H, h => by cases H
theorem yO {mem : aO} {v : Option c7} (h : aB mem = [v]) : ∃ u, mem = [u] ∧ u.map eI.down = v := by
 match mem, h with
 | [u], h => exact ⟨u, rfl, (yx h).1⟩
 | [], h => cases h
 | _ :: _ :: _, h => cases h
theorem Bq : ∀ {s : Sh} {mem : aO} {x : s.den}, s.okM = true → aB mem = aB (eH s x) → z5 s mem = true
 | .nil, mem, x, _, h => by
  cases mem with
  | nil => rfl
  | cons _ _ => cases h
 | .bnone, mem, x, _, h => by
  obtain ⟨u, rfl, J⟩ := yO (v := none) h
  cases u with
  | none => rfl
  | some _ => cases J
 | .bts gen frz β ag T, mem, x, _, h => by
  obtain ⟨u, rfl, J⟩ := yO h
  cases u with
  | none => cases J
  | some u =>
   have J := ya J
   obtain ⟨g', K, row⟩ := u
   have U : g' = gen := congrArg c7.gen J
   have Y : K = frz := congrArg c7.frz J
   have O : row.down = (KRow.ts β ag T x).down := congrArg c7.row J
   subst U; subst Y
   cases row with
   | ts β' V T' xs =>
    show (fY g' g' && eV K K) = true
    cases K <;> simp [cH, eV]
   | cells e cs =>
    exfalso
    have := congrArg Row.isCells O
    rw [d7, d7] at this
    cases this
 | .bcells gen frz e l, mem, x, H, h => by
  obtain ⟨u, rfl, J⟩ := yO h
  cases u with
  | none => cases J
  | some u =>
   have J := ya J
   obtain ⟨g', K, row⟩ := u
   have U : g' = gen := congrArg c7.gen J
   have Y : K = frz := congrArg c7.frz J
   have O : row.down = (KRow.cells e (dG l x)).down := congrArg c7.row J
   subst U; subst Y
   cases row with
   | ts β' V T' xs =>
    exfalso
    have := congrArg Row.isCells O
    rw [d7, d7] at this
    cases this
   | cells Z cs =>
    obtain ⟨h4, h5⟩ := Row.cells.inj O
    subst h4
    have r1 := kE.refl (s := l) H x
    rw [← h5] at r1
    show (fY g' g' && eV K K && fY Z Z && j1 l cs) = true
    have := lL (s := l) r1
    cases K <;> simp [cH, eV, this]
 | .cons a b, mem, x, H, h => by
  have N : (a.oneM && a.okM && b.okM) = true := H
  simp only [yc] at N
  obtain ⟨u, J⟩ := CP N.1.1 (P2.fst a.dflt a.un b.un x)
  have W : aB mem = aB (eH a (P2.fst a.dflt a.un b.un x) ++ eH b (P2.snd b.dflt a.un b.un x)) := h
  rw [J] at W
  cases mem with
  | nil => cases W
  | cons y r =>
   have := yx W
   show (z5 a [y] && z5 b r) = true
   rw [yc]
   refine ⟨Bq (s := a) (x := P2.fst a.dflt a.un b.un x) N.1.2 ?_, Bq N.2 this.2⟩
   rw [J]
   exact congrArg (fun z => [z]) this.1
 | .int _, m, x, H, h | .bool, m, x, H, h | .str, m, x, H, h | .nilS, m, x, H, h | .nilP, m, x, H, h | .undef, m, x, H, h | .sl _ _ _, m, x, H, h | .el _ _ _ _, m, x, H, h | .ptr _ _ _ _, m, x, H, h
 | .ptrI _ _ _, m, x, H, h | .ms _ _, m, x, H, h | .msw _ _, m, x, H, h | .fn _ _ _, m, x, H, h | .agg _, m, x, H, h | .tup _, m, x, H, h => by cases H
end Go.Ab
