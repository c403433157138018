import Derived.Test.YtdlbbdbbpoggfaaLib25
set_option linter.unusedVariables false
set_option linter.unusedSectionVars false
set_option linter.unusedSimpArgs false
namespace Go.Ab
variable [GTab]
theorem zC {args : List KV} {v : AV} (h : KV.downs args = [v]) : ∃ u, args = [u] ∧ u.down = v := by
 match args, h with
 | [u], h => exact ⟨u, rfl, (yz h).1⟩
 | [], h => cases h
 | _ :: _ :: _, h => cases h
theorem znn {args : List KV} {v : AV} {r : List AV} (h : KV.downs args = v :: r) : ∃ u us, args = u :: us ∧ u.down = v ∧ KV.downs us = r := by
 match args, h with
 | u :: us, h => exact ⟨u, us, rfl, (yz h).1, (yz h).2⟩
 | [], h => cases h
theorem zbn : ∀ {s : Sh} {args : List KV} {x : s.den}, LeS s (KV.downs args) x → fitsK s args = true
 | .int k, args, x, h => by
  obtain ⟨u, rfl, hu⟩ := zC h
  cases u <;> first | (cases hu; done) | skip
  rename_i v
  have hu : AV.lit v = .lit (.int k x) := hu
  obtain rfl := AV.lit.inj hu
  rfl
 | .bool, args, x, h => by
  obtain ⟨u, rfl, hu⟩ := zC h
  cases u <;> first | (cases hu; done) | skip
  rename_i v
  have hu : AV.lit v = .lit (.bool x) := hu
  obtain rfl := AV.lit.inj hu
  rfl
 | .str, args, x, h => by
  obtain ⟨u, rfl, hu⟩ := zC h
  cases u <;> first | (cases hu; done) | skip
  rename_i v
  have hu : AV.lit v = .lit (.string x) := hu
  obtain rfl := AV.lit.inj hu
  rfl
 | .nilS, args, x, h => by
  obtain ⟨u, rfl, hu⟩ := zC h
  cases u <;> first | (cases hu; done) | skip
  rename_i v
  obtain rfl := AV.lit.inj hu
  rfl
 | .nilP, args, x, h => by
  obtain ⟨u, rfl, hu⟩ := zC h
  cases u <;> first | (cases hu; done) | skip
  rename_i v
  obtain rfl := AV.lit.inj hu
  rfl
 | .undef, args, x, h => by
  obtain ⟨u, rfl, hu⟩ := zC h
  cases u <;> first | (cases hu; done) | skip
  rename_i v
  obtain rfl := AV.lit.inj hu
  rfl
 | .sl β ag T, args, x, h => by
  rcases h with ⟨β', _, h⟩ | ⟨h, _⟩
  ·obtain ⟨u, rfl, hu⟩ := zC h
   have hs := zcU ag T x
   cases u with
   | tsl _ _ _ _ => rfl
   | dead => rw [← (AV.imm.inj hu).2] at hs; cases hs
   | gone => rw [← (AV.imm.inj hu).2] at hs; cases hs
   | unkB => rw [← (AV.imm.inj hu).2] at hs; cases hs
   | _ => cases hu
  ·obtain ⟨u, rfl, hu⟩ := zC h
   cases u <;> first | (cases hu; done) | skip
   rename_i v
   obtain rfl := AV.lit.inj hu
   rfl
 | .el β ag T c, args, x, h => by
  obtain ⟨β', _, h⟩ := h
  obtain ⟨u, rfl, hu⟩ := zC h
  cases u <;> first | (cases hu; done) | skip
  rename_i c'
  have := (AV.el.inj hu).2.2
  subst this
  exact zx.2 rfl
 | .ptr b g i c, args, x, h => by
  obtain ⟨u, rfl, hu⟩ := zC h
  cases u <;> first | (cases hu; done) | skip
  obtain ⟨rfl, rfl, rfl, rfl⟩ := AV.ptr.inj hu
  show (eqN _ _ && eqN _ _ && eqN _ _ && eqN _ _) = true
  simp [zx]
 | .ptrI b g c, args, x, h => by
  obtain ⟨u, rfl, hu⟩ := zC h
  cases u <;> first | (cases hu; done) | skip
  obtain ⟨rfl, rfl, _, rfl⟩ := AV.ptr.inj hu
  show (eqN _ _ && eqN _ _ && eqN _ _) = true
  simp [zx]
 | .ms b g, args, x, h => by
  obtain ⟨u, rfl, hu⟩ := zC h
  cases u <;> first | (cases hu; done) | skip
  obtain ⟨rfl, rfl, _, _⟩ := AV.ms.inj hu
  show (eqN _ _ && eqN _ _) = true
  simp [zx]
 | .msw b g, args, x, h => by
  obtain ⟨u, rfl, hu⟩ := zC h
  cases u <;> first | (cases hu; done) | skip
  obtain ⟨rfl, rfl⟩ := AV.msw.inj hu
  show (eqN _ _ && eqN _ _) = true
  simp [zx]
 | .fn f fi ca, args, x, h => by
  obtain ⟨fi', ca', h, h1, h2⟩ := h
  obtain ⟨u, rfl, hu⟩ := zC h
  cases u <;> first | (cases hu; done) | skip
  obtain ⟨rfl, rfl, rfl⟩ := AV.fn.inj hu
  show (eqN f f && fitsK fi _ && fitsK ca _) = true
  simp [zx, zbn h1, zbn h2]
 | .agg l, args, x, h => by
  obtain ⟨cs, h, h1⟩ := h
  obtain ⟨u, rfl, hu⟩ := zC h
  cases u <;> first | (cases hu; done) | skip
  obtain rfl := AV.agg.inj hu
  exact zbn (s := l) h1
 | .tup l, args, x, h => by
  obtain ⟨cs, h, h1⟩ := h
  obtain ⟨u, rfl, hu⟩ := zC h
  cases u <;> first | (cases hu; done) | skip
  obtain rfl := AV.tup.inj hu
  exact zbn (s := l) h1
 | .nil, args, x, h => by
  cases args with
  | nil => rfl
  | cons _ _ => cases h
 | .cons a b, args, x, h => by
  obtain ⟨v, r, h, h1, h2⟩ := h
  obtain ⟨u, us, rfl, rfl, rfl⟩ := znn h
  show (fitsK a [u] && fitsK b us) = true
  rw [yb]
  exact ⟨zbn (s := a) (args := [u]) h1, zbn h2⟩
 | .bnone, args, x, h => h.elim
 | .bts _ _ _ _ _, args, x, h => h.elim
 | .bcells _ _ _ _, args, x, h => h.elim
 | .bos _ _ _ _, args, x, h => h.elim
def Sh.oneM : Sh → Bool
 | .bnone => true
 | .bts _ _ _ _ _ => true
 | .bcells _ _ _ _ => true
 | .bos _ _ _ _ => true
 | _ => false
def Sh.okH : Sh → Bool
 | .nil => true
 | .cons (.agg (.cons (.ptrI b g c) (.cons v .nil))) r => eqN b 0 && eqN g 0 && v.one && r.okH
 | _ => false
def Sh.okM : Sh → Bool
 | .nil => true
 | .cons a b => a.oneM && a.okM && b.okM
 | .bnone => true
 | .bts _ _ _ _ _ => true
 | .bcells _ _ _ l => l.okL
 | .bos _ _ _ l => l.okL && l.okH
 | _ => false
def HoleL (vs : List KV) : Prop := ∀ v ∈ vs, ∃ i c w, v = .agg [.ptr 0 0 i c, w]
theorem HoleL.eq : ∀ {vs : List KV}, HoleL vs → holesV (holesOf vs) = vs
 | [], _ => rfl
 | v :: vs, h => by
  obtain ⟨i, c, w, rfl⟩ := h v (yn ..)
  have ih := HoleL.eq (vs := vs) fun v hv => h v (yi _ hv)
  show KV.agg _ :: holesV (holesOf vs) = _
  rw [ih]
theorem zqb {v : Sh} (hv : v.one = true) (d : (Sh.cons v .nil).den) : ∃ w, encS (.cons v .nil) d = [w] := by
 obtain ⟨w, hw⟩ := zkL hv (P2.fst v.dflt v.un Sh.nil.un d)
 refine ⟨w, ?_⟩
 show encS v (P2.fst v.dflt v.un Sh.nil.un d) ++ [] = _
 rw [hw]; rfl
theorem zpp {c : Nat} {v : Sh} (hv : v.one = true) (d : (Sh.agg (.cons (.ptrI 0 0 c) (.cons v .nil))).den) : ∃ i w, encS (.agg (.cons (.ptrI 0 0 c) (.cons v .nil))) d = [.agg [.ptr 0 0 i c, w]] := by
 obtain ⟨w, hw⟩ := zqb hv (P2.snd (Sh.cons v .nil).dflt (Sh.ptrI 0 0 c).un (Sh.cons v .nil).un d)
 refine ⟨P2.fst (Sh.ptrI 0 0 c).dflt (Sh.ptrI 0 0 c).un (Sh.cons v .nil).un d, w, ?_⟩
 show [KV.agg ([KV.ptr 0 0 _ c] ++ encS (.cons v .nil) (P2.snd (Sh.cons v .nil).dflt (Sh.ptrI 0 0 c).un (Sh.cons v .nil).un d))] = _
 rw [hw]; rfl
theorem zjp : ∀ {l : Sh}, l.okH = true → ∀ p : l.den, HoleL (encS l p)
 | .nil, _, _ => fun v hv => by cases hv
 | .cons (.agg (.cons (.ptrI b g c) (.cons v .nil))) r, h, p => by
  have h' : (eqN b 0 && eqN g 0 && v.one && r.okH) = true := h
  simp only [yb, zx] at h'
  obtain ⟨⟨⟨rfl, rfl⟩, hv⟩, hr⟩ := h'
  intro u hu
  have hu : u ∈ encS (.agg (.cons (.ptrI 0 0 c) (.cons v .nil))) (P2.fst (Sh.agg (.cons (.ptrI 0 0 c) (.cons v .nil))).dflt (Sh.agg (.cons (.ptrI 0 0 c) (.cons v .nil))).un r.un p) ++ encS r (P2.snd r.dflt (Sh.agg (.cons (.ptrI 0 0 c) (.cons v .nil))).un r.un p) := hu
  obtain ⟨i, w, e⟩ := zpp (c := c) hv (P2.fst (Sh.agg (.cons (.ptrI 0 0 c) (.cons v .nil))).dflt (Sh.agg (.cons (.ptrI 0 0 c) (.cons v .nil))).un r.un p)
  rw [e] at hu
  rcases yl1.1 hu with hu | hu
  ·exact ⟨i, c, w, ya2.1 hu⟩
  ·exact zjp hr _ u hu
theorem zfX {l : Sh} (h : l.okH = true) (p : l.den) : holesV (holesOf (encS l p)) = encS l p := (zjp h p).eq
noncomputable def holesVD : List (Nat × Nat × AV) → List AV
 | [] => []
 | h :: r => .agg [.ptr 0 0 h.1 h.2.1, h.2.2] :: holesVD r
theorem zbW : ∀ hs : Holes, KV.downs (holesV hs) = holesVD (holesD hs)
 | [] => rfl
 | h :: r => by
  show _ :: KV.downs (holesV r) = _
  rw [zbW r]; rfl
theorem zhA {s : Sh} (h : s.oneM = true) (d : s.den) : ∃ x, encM s d = [x] := by
 cases s <;> first | (cases h; done) | exact ⟨_, rfl⟩
theorem znu {β ag : Bool} {T : Ty} {xs ys : List (den T)} (h : (KRow.ts β ag T xs).down = (KRow.ts β ag T ys).down) : xs = ys := by
 cases hi : isIntsK ag T with
 | true =>
  obtain ⟨rfl, k, rfl⟩ := zc.1 hi
  exact (Row.ints.inj h).2
 | false =>
  rw [KRow.down_sl hi, KRow.down_sl hi] at h
  exact zht (fun x y => zhK) (Row.pvs.inj h).2.2
theorem ziZ : ∀ {s : Sh} {x y : s.den}, s.okM = true → kdown (encM s x) = kdown (encM s y) → x = y
 | .nil, x, y, _, _ => rfl
 | .bnone, x, y, _, _ => rfl
 | .bts gen frz β ag T, x, y, _, h => by
  have h := ya (yz h).1
  exact znu (congrArg Box.row h)
 | .bcells gen frz e l, x, y, ho, h => by
  have h := ya (yz h).1
  have h1 : Row.cells e (KV.downs (encS l x)) = .cells e (KV.downs (encS l y)) := congrArg Box.row h
  have h2 := (Row.cells.inj h1).2
  have r1 := LeS.refl (s := l) ho x
  have r2 := LeS.refl (s := l) ho y
  rw [h2] at r1
  exact LeS.unique (s := l) r1 r2
 | .bos gen frz T l, x, y, ho, h => by
  have ho' : (l.okL && l.okH) = true := ho
  rw [yb] at ho'
  have h := ya (yz h).1
  have h1 : (KRow.os T (P2.fst (A := List (Go.Ab.den T)) [] false l.un x) (holesOf (encS l (P2.snd l.dflt false l.un x)))).down = (KRow.os T (P2.fst (A := List (Go.Ab.den T)) [] false l.un y) (holesOf (encS l (P2.snd l.dflt false l.un y)))).down := congrArg Box.row h
  obtain ⟨_, h2, h3⟩ := Row.own.inj h1
  have h4 : KV.downs (encS l (P2.snd l.dflt false l.un x)) = KV.downs (encS l (P2.snd l.dflt false l.un y)) := by
   have e1 := congrArg KV.downs (zfX ho'.2 (P2.snd l.dflt false l.un x))
   have e2 := congrArg KV.downs (zfX ho'.2 (P2.snd l.dflt false l.un y))
   rw [zbW] at e1 e2
   rw [← e1, ← e2, h3]
  have r1 := LeS.refl (s := l) ho'.1 (P2.snd l.dflt false l.un x)
  have r2 := LeS.refl (s := l) ho'.1 (P2.snd l.dflt false l.un y)
  rw [h4] at r1
  exact P2.ext (da := []) (db := l.dflt) (zht (fun x y => zhK) h2) (LeS.unique (s := l) r1 r2)
 | .cons a b, x, y, ho, h => by
  have ho' : (a.oneM && a.okM && b.okM) = true := ho
  simp only [yb] at ho'
  have h' : kdown (encM a (P2.fst a.dflt a.un b.un x) ++ encM b (P2.snd b.dflt a.un b.un x)) = kdown (encM a (P2.fst a.dflt a.un b.un y) ++ encM b (P2.snd b.dflt a.un b.un y)) := h
  obtain ⟨u, hu⟩ := zhA ho'.1.1 (P2.fst a.dflt a.un b.un x)
  obtain ⟨v, hv⟩ := zhA ho'.1.1 (P2.fst a.dflt a.un b.un y)
  have e1 : kdown (encM a (P2.fst a.dflt a.un b.un x)) = kdown (encM a (P2.fst a.dflt a.un b.un y)) ∧ kdown (encM b (P2.snd b.dflt a.un b.un x)) = kdown (encM b (P2.snd b.dflt a.un b.un y)) := by
   rw [hu, hv] at h' ⊢
   have := yz h'
   exact ⟨congrArg (fun z => [z]) this.1, this.2⟩
  exact P2.ext (ziZ ho'.1.2 e1.1) (ziZ ho'.2 e1.2)
 | .int _, x, y, ho, h | .bool, x, y, ho, h | .str, x, y, ho, h | .nilS, x, y, ho, h | .nilP, x, y, ho, h | .undef, x, y, ho, h | .sl _ _ _, x, y, ho, h | .el _ _ _ _, x, y, ho, h | .ptr _ _ _ _, x, y, ho, h
 | .ptrI _ _ _, x, y, ho, h | .ms _ _, x, y, ho, h | .msw _ _, x, y, ho, h | .fn _ _ _, x, y, ho, h | .agg _, x, y, ho, h | .tup _, x, y, ho, h => by cases ho
theorem zef {mem : KMem} {v : Option Box} (h : kdown mem = [v]) : ∃ u, mem = [u] ∧ u.map KBox.down = v := by
 match mem, h with
 | [u], h => exact ⟨u, rfl, (yz h).1⟩
 | [], h => cases h
 | _ :: _ :: _, h => cases h
theorem zhV : ∀ {s : Sh} {mem : KMem} {x : s.den}, s.okM = true → kdown mem = kdown (encM s x) → fitsM s mem = true
 | .nil, mem, x, _, h => by
  cases mem with
  | nil => rfl
  | cons _ _ => cases h
 | .bnone, mem, x, _, h => by
  obtain ⟨u, rfl, hu⟩ := zef (v := none) h
  cases u with
  | none => rfl
  | some _ => cases hu
 | .bts gen frz β ag T, mem, x, _, h => by
  obtain ⟨u, rfl, hu⟩ := zef h
  cases u with
  | none => cases hu
  | some u =>
   have hu := ya hu
   obtain ⟨g', f', row⟩ := u
   have h1 : g' = gen := congrArg Box.gen hu
   have h2 : f' = frz := congrArg Box.frz hu
   have h3 : row.down = (KRow.ts β ag T x).down := congrArg Box.row hu
   subst h1; subst h2
   cases row with
   | ts β' ag' T' xs =>
    show (eqN g' g' && beqB f' f') = true
    cases f' <;> simp [zx, beqB]
   | cells e cs =>
    exfalso
    have := congrArg Row.isCells h3
    rw [zaf, zaf] at this
    cases this
   | os T' xs hs =>
    exfalso
    have := congrArg Row.isOwn h3
    rw [zG, zG] at this
    cases this
 | .bcells gen frz e l, mem, x, ho, h => by
  obtain ⟨u, rfl, hu⟩ := zef h
  cases u with
  | none => cases hu
  | some u =>
   have hu := ya hu
   obtain ⟨g', f', row⟩ := u
   have h1 : g' = gen := congrArg Box.gen hu
   have h2 : f' = frz := congrArg Box.frz hu
   have h3 : row.down = (KRow.cells e (encS l x)).down := congrArg Box.row hu
   subst h1; subst h2
   cases row with
   | ts β' ag' T' xs =>
    exfalso
    have := congrArg Row.isCells h3
    rw [zaf, zaf] at this
    cases this
   | os T' xs hs =>
    exfalso
    have := congrArg Row.isOwn h3
    rw [zG, zG] at this
    cases this
   | cells e' cs =>
    obtain ⟨h4, h5⟩ := Row.cells.inj h3
    subst h4
    have r1 := LeS.refl (s := l) ho x
    rw [← h5] at r1
    show (eqN g' g' && beqB f' f' && eqN e' e' && fitsK l cs) = true
    have := zbn (s := l) r1
    cases f' <;> simp [zx, beqB, this]
 | .bos gen frz T l, mem, x, ho, h => by
  have ho' : (l.okL && l.okH) = true := ho
  rw [yb] at ho'
  obtain ⟨u, rfl, hu⟩ := zef h
  cases u with
  | none => cases hu
  | some u =>
   have hu := ya hu
   obtain ⟨g', f', row⟩ := u
   have h1 : g' = gen := congrArg Box.gen hu
   have h2 : f' = frz := congrArg Box.frz hu
   have h3 : row.down = (KRow.os T (P2.fst (A := List (Go.Ab.den T)) [] false l.un x) (holesOf (encS l (P2.snd l.dflt false l.un x)))).down := congrArg Box.row hu
   subst h1; subst h2
   cases row with
   | ts β' ag' T' xs =>
    exfalso
    have := congrArg Row.isOwn h3
    rw [zG, zG] at this
    cases this
   | cells e' cs =>
    exfalso
    have := congrArg Row.isOwn h3
    rw [zG, zG] at this
    cases this
   | os T' xs hs =>
    obtain ⟨_, _, h5⟩ := Row.own.inj h3
    have r1 := LeS.refl (s := l) ho'.1 (P2.snd l.dflt false l.un x)
    have e1 := congrArg KV.downs (zfX ho'.2 (P2.snd l.dflt false l.un x))
    rw [zbW, ← h5, ← zbW] at e1
    rw [← e1] at r1
    show (eqN g' g' && beqB f' f' && fitsK l (holesV hs)) = true
    have := zbn (s := l) r1
    cases f' <;> simp [zx, beqB, this]
 | .cons a b, mem, x, ho, h => by
  have ho' : (a.oneM && a.okM && b.okM) = true := ho
  simp only [yb] at ho'
  obtain ⟨u, hu⟩ := zhA ho'.1.1 (P2.fst a.dflt a.un b.un x)
  have h' : kdown mem = kdown (encM a (P2.fst a.dflt a.un b.un x) ++ encM b (P2.snd b.dflt a.un b.un x)) := h
  rw [hu] at h'
  cases mem with
  | nil => cases h'
  | cons y r =>
   have := yz h'
   show (fitsM a [y] && fitsM b r) = true
   rw [yb]
   refine ⟨zhV (s := a) (x := P2.fst a.dflt a.un b.un x) ho'.1.2 ?_, zhV ho'.2 this.2⟩
   rw [hu]
   exact congrArg (fun z => [z]) this.1
 | .int _, m, x, ho, h | .bool, m, x, ho, h | .str, m, x, ho, h | .nilS, m, x, ho, h | .nilP, m, x, ho, h | .undef, m, x, ho, h | .sl _ _ _, m, x, ho, h | .el _ _ _ _, m, x, ho, h | .ptr _ _ _ _, m, x, ho, h
 | .ptrI _ _ _, m, x, ho, h | .ms _ _, m, x, ho, h | .msw _ _, m, x, ho, h | .fn _ _ _, m, x, ho, h | .agg _, m, x, ho, h | .tup _, m, x, ho, h => by cases ho
end Go.Ab
