/- Shapes: what fits, what is told apart, what may stand for what. -/
import Derived.Test.YtmoldheenagboaaLib23
set_option linter.unusedVariables false
set_option linter.unusedSectionVars false
set_option linter.unusedSimpArgs false
namespace Go.Ab
variable [GTab]
theorem zx {args : List KV} {v : AV} (h : KV.downs args = [v]) : ∃ u, args = [u] ∧ u.down = v := by
 match args, h with
 | [u], h => exact ⟨u, rfl, (List.cons.inj h).1⟩
 | [], h => cases h
 | _ :: _ :: _, h => cases h
theorem zlO {args : List KV} {v : AV} {r : List AV} (h : KV.downs args = v :: r) : ∃ u us, args = u :: us ∧ u.down = v ∧ KV.downs us = r := by
 match args, h with
 | u :: us, h => exact ⟨u, us, rfl, (List.cons.inj h).1, (List.cons.inj h).2⟩
 | [], h => cases h
theorem zbz : ∀ {s : Sh} {args : List KV} {x : s.den}, LeS s (KV.downs args) x → fitsK s args = true
 | .int k, args, x, h => by
  obtain ⟨u, rfl, hu⟩ := zx h
  cases u <;> first | (cases hu; done) | skip
  rename_i v
  have hu : AV.lit v = .lit (.int k x) := hu
  obtain rfl := AV.lit.inj hu
  rfl
 | .bool, args, x, h => by
  obtain ⟨u, rfl, hu⟩ := zx h
  cases u <;> first | (cases hu; done) | skip
  rename_i v
  have hu : AV.lit v = .lit (.bool x) := hu
  obtain rfl := AV.lit.inj hu
  rfl
 | .str, args, x, h => by
  obtain ⟨u, rfl, hu⟩ := zx h
  cases u <;> first | (cases hu; done) | skip
  rename_i v
  have hu : AV.lit v = .lit (.string x) := hu
  obtain rfl := AV.lit.inj hu
  rfl
 | .nilS, args, x, h => by
  obtain ⟨u, rfl, hu⟩ := zx h
  cases u <;> first | (cases hu; done) | skip
  rename_i v
  obtain rfl := AV.lit.inj hu
  rfl
 | .nilP, args, x, h => by
  obtain ⟨u, rfl, hu⟩ := zx h
  cases u <;> first | (cases hu; done) | skip
  rename_i v
  obtain rfl := AV.lit.inj hu
  rfl
 | .undef, args, x, h => by
  obtain ⟨u, rfl, hu⟩ := zx h
  cases u <;> first | (cases hu; done) | skip
  rename_i v
  obtain rfl := AV.lit.inj hu
  rfl
 | .sl β ag T, args, x, h => by
  rcases h with ⟨β', _, h⟩ | ⟨h, _⟩
  ·obtain ⟨u, rfl, hu⟩ := zx h
   have hs := zck ag T x
   cases u with
   | tsl _ _ _ _ => rfl
   | dead => rw [← (AV.imm.inj hu).2] at hs; cases hs
   | gone => rw [← (AV.imm.inj hu).2] at hs; cases hs
   | unkB => rw [← (AV.imm.inj hu).2] at hs; cases hs
   | _ => cases hu
  ·obtain ⟨u, rfl, hu⟩ := zx h
   cases u <;> first | (cases hu; done) | skip
   rename_i v
   obtain rfl := AV.lit.inj hu
   rfl
 | .el β ag T c, args, x, h => by
  obtain ⟨β', _, h⟩ := h
  obtain ⟨u, rfl, hu⟩ := zx h
  cases u <;> first | (cases hu; done) | skip
  rename_i c'
  have := (AV.el.inj hu).2.2
  subst this
  exact zy.2 rfl
 | .ptr b g i c, args, x, h => by
  obtain ⟨u, rfl, hu⟩ := zx h
  cases u <;> first | (cases hu; done) | skip
  obtain ⟨rfl, rfl, rfl, rfl⟩ := AV.ptr.inj hu
  show (eqN _ _ && eqN _ _ && eqN _ _ && eqN _ _) = true
  simp [zy]
 | .ptrI b g c, args, x, h => by
  obtain ⟨u, rfl, hu⟩ := zx h
  cases u <;> first | (cases hu; done) | skip
  obtain ⟨rfl, rfl, _, rfl⟩ := AV.ptr.inj hu
  show (eqN _ _ && eqN _ _ && eqN _ _) = true
  simp [zy]
 | .ms b g, args, x, h => by
  obtain ⟨u, rfl, hu⟩ := zx h
  cases u <;> first | (cases hu; done) | skip
  obtain ⟨rfl, rfl, _, _⟩ := AV.ms.inj hu
  show (eqN _ _ && eqN _ _) = true
  simp [zy]
 | .msw b g, args, x, h => by
  obtain ⟨u, rfl, hu⟩ := zx h
  cases u <;> first | (cases hu; done) | skip
  obtain ⟨rfl, rfl⟩ := AV.msw.inj hu
  show (eqN _ _ && eqN _ _) = true
  simp [zy]
 | .fn f fi ca, args, x, h => by
  obtain ⟨fi', ca', h, h1, h2⟩ := h
  obtain ⟨u, rfl, hu⟩ := zx h
  cases u <;> first | (cases hu; done) | skip
  obtain ⟨rfl, rfl, rfl⟩ := AV.fn.inj hu
  show (eqN f f && fitsK fi _ && fitsK ca _) = true
  simp [zy, zbz h1, zbz h2]
 | .agg l, args, x, h => by
  obtain ⟨cs, h, h1⟩ := h
  obtain ⟨u, rfl, hu⟩ := zx h
  cases u <;> first | (cases hu; done) | skip
  obtain rfl := AV.agg.inj hu
  exact zbz (s := l) h1
 | .tup l, args, x, h => by
  obtain ⟨cs, h, h1⟩ := h
  obtain ⟨u, rfl, hu⟩ := zx h
  cases u <;> first | (cases hu; done) | skip
  obtain rfl := AV.tup.inj hu
  exact zbz (s := l) h1
 | .nil, args, x, h => by
  cases args with
  | nil => rfl
  | cons _ _ => cases h
 | .cons a b, args, x, h => by
  obtain ⟨v, r, h, h1, h2⟩ := h
  obtain ⟨u, us, rfl, rfl, rfl⟩ := zlO h
  show (fitsK a [u] && fitsK b us) = true
  rw [Bool.and_eq_true]
  exact ⟨zbz (s := a) (args := [u]) h1, zbz h2⟩
 | .bnone, args, x, h => h.elim
 | .bts _ _ _ _ _, args, x, h => h.elim
 | .bcells _ _ _ _, args, x, h => h.elim
def Sh.oneM : Sh → Bool
 | .bnone => true
 | .bts _ _ _ _ _ => true
 | .bcells _ _ _ _ => true
 | _ => false
def Sh.okM : Sh → Bool
 | .nil => true
 | .cons a b => a.oneM && a.okM && b.okM
 | .bnone => true
 | .bts _ _ _ _ _ => true
 | .bcells _ _ _ l => l.okL
 | _ => false
theorem zhr {s : Sh} (h : s.oneM = true) (d : s.den) : ∃ x, encM s d = [x] := by
 cases s <;> first | (cases h; done) | exact ⟨_, rfl⟩
theorem zla {β ag : Bool} {T : Ty} {xs ys : List (den T)} (h : (KRow.ts β ag T xs).down = (KRow.ts β ag T ys).down) : xs = ys := by
 cases hi : isIntsK ag T with
 | true =>
  obtain ⟨rfl, k, rfl⟩ := zg.1 hi
  exact (Row.ints.inj h).2
 | false =>
  rw [KRow.down_sl hi, KRow.down_sl hi] at h
  exact zjd (fun x y => zjP) (Row.pvs.inj h).2.2
theorem zhB : ∀ {s : Sh} {x y : s.den}, s.okM = true → kdown (encM s x) = kdown (encM s y) → x = y
 | .nil, x, y, _, _ => rfl
 | .bnone, x, y, _, _ => rfl
 | .bts gen frz β ag T, x, y, _, h => by
  have h := Option.some.inj (List.cons.inj h).1
  exact zla (congrArg Box.row h)
 | .bcells gen frz e l, x, y, ho, h => by
  have h := Option.some.inj (List.cons.inj h).1
  have h1 : Row.cells e (KV.downs (encS l x)) = .cells e (KV.downs (encS l y)) := congrArg Box.row h
  have h2 := (Row.cells.inj h1).2
  have r1 := LeS.refl (s := l) ho x
  have r2 := LeS.refl (s := l) ho y
  rw [h2] at r1
  exact LeS.unique (s := l) r1 r2
 | .cons a b, x, y, ho, h => by
  have ho' : (a.oneM && a.okM && b.okM) = true := ho
  simp only [Bool.and_eq_true] at ho'
  have h' : kdown (encM a (P2.fst a.dflt a.un b.un x) ++ encM b (P2.snd b.dflt a.un b.un x)) = kdown (encM a (P2.fst a.dflt a.un b.un y) ++ encM b (P2.snd b.dflt a.un b.un y)) := h
  obtain ⟨u, hu⟩ := zhr ho'.1.1 (P2.fst a.dflt a.un b.un x)
  obtain ⟨v, hv⟩ := zhr ho'.1.1 (P2.fst a.dflt a.un b.un y)
  have e1 : kdown (encM a (P2.fst a.dflt a.un b.un x)) = kdown (encM a (P2.fst a.dflt a.un b.un y)) ∧ kdown (encM b (P2.snd b.dflt a.un b.un x)) = kdown (encM b (P2.snd b.dflt a.un b.un y)) := by
   rw [hu, hv] at h' ⊢
   have := List.cons.inj h'
   exact ⟨congrArg (fun z => [z]) this.1, this.2⟩
  exact P2.ext (zhB ho'.1.2 e1.1) (zhB ho'.2 e1.2)
 | .int _, x, y, ho, h | .bool, x, y, ho, h | .str, x, y, ho, h | .nilS, x, y, ho, h | .nilP, x, y, ho, h | .undef, x, y, ho, h | .sl _ _ _, x, y, ho, h | .el _ _ _ _, x, y, ho, h | .ptr _ _ _ _, x, y, ho, h
 | .ptrI _ _ _, x, y, ho, h | .ms _ _, x, y, ho, h | .msw _ _, x, y, ho, h | .fn _ _ _, x, y, ho, h | .agg _, x, y, ho, h | .tup _, x, y, ho, h => by cases ho
theorem zfh {mem : KMem} {v : Option Box} (h : kdown mem = [v]) : ∃ u, mem = [u] ∧ u.map KBox.down = v := by
 match mem, h with
 | [u], h => exact ⟨u, rfl, (List.cons.inj h).1⟩
 | [], h => cases h
 | _ :: _ :: _, h => cases h
theorem zgW : ∀ {s : Sh} {mem : KMem} {x : s.den}, s.okM = true → kdown mem = kdown (encM s x) → fitsM s mem = true
 | .nil, mem, x, _, h => by
  cases mem with
  | nil => rfl
  | cons _ _ => cases h
 | .bnone, mem, x, _, h => by
  obtain ⟨u, rfl, hu⟩ := zfh (v := none) h
  cases u with
  | none => rfl
  | some _ => cases hu
 | .bts gen frz β ag T, mem, x, _, h => by
  obtain ⟨u, rfl, hu⟩ := zfh h
  cases u with
  | none => cases hu
  | some u =>
   have hu := Option.some.inj hu
   obtain ⟨g', f', row⟩ := u
   have h1 : g' = gen := congrArg Box.gen hu
   have h2 : f' = frz := congrArg Box.frz hu
   have h3 : row.down = (KRow.ts β ag T x).down := congrArg Box.row hu
   subst h1; subst h2
   cases row with
   | ts β' ag' T' xs =>
    show (eqN g' g' && beqB f' f') = true
    cases f' <;> simp [zy, beqB]
   | cells e cs =>
    exfalso
    have := congrArg Row.isCells h3
    rw [zX, zX] at this
    cases this
 | .bcells gen frz e l, mem, x, ho, h => by
  obtain ⟨u, rfl, hu⟩ := zfh h
  cases u with
  | none => cases hu
  | some u =>
   have hu := Option.some.inj hu
   obtain ⟨g', f', row⟩ := u
   have h1 : g' = gen := congrArg Box.gen hu
   have h2 : f' = frz := congrArg Box.frz hu
   have h3 : row.down = (KRow.cells e (encS l x)).down := congrArg Box.row hu
   subst h1; subst h2
   cases row with
   | ts β' ag' T' xs =>
    exfalso
    have := congrArg Row.isCells h3
    rw [zX, zX] at this
    cases this
   | cells e' cs =>
    obtain ⟨h4, h5⟩ := Row.cells.inj h3
    subst h4
    have r1 := LeS.refl (s := l) ho x
    rw [← h5] at r1
    show (eqN g' g' && beqB f' f' && eqN e' e' && fitsK l cs) = true
    have := zbz (s := l) r1
    cases f' <;> simp [zy, beqB, this]
 | .cons a b, mem, x, ho, h => by
  have ho' : (a.oneM && a.okM && b.okM) = true := ho
  simp only [Bool.and_eq_true] at ho'
  obtain ⟨u, hu⟩ := zhr ho'.1.1 (P2.fst a.dflt a.un b.un x)
  have h' : kdown mem = kdown (encM a (P2.fst a.dflt a.un b.un x) ++ encM b (P2.snd b.dflt a.un b.un x)) := h
  rw [hu] at h'
  cases mem with
  | nil => cases h'
  | cons y r =>
   have := List.cons.inj h'
   show (fitsM a [y] && fitsM b r) = true
   rw [Bool.and_eq_true]
   refine ⟨zgW (s := a) (x := P2.fst a.dflt a.un b.un x) ho'.1.2 ?_, zgW ho'.2 this.2⟩
   rw [hu]
   exact congrArg (fun z => [z]) this.1
 | .int _, m, x, ho, h | .bool, m, x, ho, h | .str, m, x, ho, h | .nilS, m, x, ho, h | .nilP, m, x, ho, h | .undef, m, x, ho, h | .sl _ _ _, m, x, ho, h | .el _ _ _ _, m, x, ho, h | .ptr _ _ _ _, m, x, ho, h
 | .ptrI _ _ _, m, x, ho, h | .ms _ _, m, x, ho, h | .msw _ _, m, x, ho, h | .fn _ _ _, m, x, ho, h | .agg _, m, x, ho, h | .tup _, m, x, ho, h => by cases ho
end Go.Ab
