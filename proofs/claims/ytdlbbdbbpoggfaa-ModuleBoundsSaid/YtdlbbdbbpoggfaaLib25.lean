import Derived.Test.YtdlbbdbbpoggfaaLib24
set_option linter.unusedVariables false
set_option linter.unusedSectionVars false
set_option linter.unusedSimpArgs false
namespace Go.Ab
variable [b4]
theorem dB {args : List KV} {v : AV} (h : KV.downs args = [v]) : ∃ u, args = [u] ∧ u.down = v := by
 match args, h with
 | [u], h => exact ⟨u, rfl, (yx h).1⟩
 | [], h => cases h
 | _ :: _ :: _, h => cases h
theorem KR {args : List KV} {v : AV} {r : List AV} (h : KV.downs args = v :: r) : ∃ u us, args = u :: us ∧ u.down = v ∧ KV.downs us = r := by
 match args, h with
 | u :: us, h => exact ⟨u, us, rfl, (yx h).1, (yx h).2⟩
 | [], h => cases h
theorem lW : ∀ {s : Sh} {args : List KV} {x : s.den}, lA s (KV.downs args) x → jQ s args = true
 | .int k, args, x, h => by
  obtain ⟨u, rfl, H⟩ := dB h
  cases u <;> first | (cases H; done) | skip
  rename_i v
  have H : AV.lit v = .lit (.int k x) := H
  obtain rfl := AV.lit.inj H
  rfl
 | .bool, args, x, h => by
  obtain ⟨u, rfl, H⟩ := dB h
  cases u <;> first | (cases H; done) | skip
  rename_i v
  have H : AV.lit v = .lit (.bool x) := H
  obtain rfl := AV.lit.inj H
  rfl
 | .str, args, x, h => by
  obtain ⟨u, rfl, H⟩ := dB h
  cases u <;> first | (cases H; done) | skip
  rename_i v
  have H : AV.lit v = .lit (.string x) := H
  obtain rfl := AV.lit.inj H
  rfl
 | .nilS, args, x, h => by
  obtain ⟨u, rfl, H⟩ := dB h
  cases u <;> first | (cases H; done) | skip
  rename_i v
  obtain rfl := AV.lit.inj H
  rfl
 | .nilP, args, x, h => by
  obtain ⟨u, rfl, H⟩ := dB h
  cases u <;> first | (cases H; done) | skip
  rename_i v
  obtain rfl := AV.lit.inj H
  rfl
 | .undef, args, x, h => by
  obtain ⟨u, rfl, H⟩ := dB h
  cases u <;> first | (cases H; done) | skip
  rename_i v
  obtain rfl := AV.lit.inj H
  rfl
 | .sl β ag T, args, x, h => by
  rcases h with ⟨β', _, h⟩ | ⟨h, _⟩
  ·obtain ⟨u, rfl, H⟩ := dB h
   have hs := p5 ag T x
   cases u with
   | tsl _ _ _ _ => rfl
   | dead => rw [← (AV.imm.inj H).2] at hs; cases hs
   | gone => rw [← (AV.imm.inj H).2] at hs; cases hs
   | unkB => rw [← (AV.imm.inj H).2] at hs; cases hs
   | _ => cases H
  ·obtain ⟨u, rfl, H⟩ := dB h
   cases u <;> first | (cases H; done) | skip
   rename_i v
   obtain rfl := AV.lit.inj H
   rfl
 | .el β ag T c, args, x, h => by
  obtain ⟨β', _, h⟩ := h
  obtain ⟨u, rfl, H⟩ := dB h
  cases u <;> first | (cases H; done) | skip
  rename_i c'
  have := (AV.el.inj H).2.2
  subst this
  exact cW.2 rfl
 | .ptr b g i c, args, x, h => by
  obtain ⟨u, rfl, H⟩ := dB h
  cases u <;> first | (cases H; done) | skip
  obtain ⟨rfl, rfl, rfl, rfl⟩ := AV.ptr.inj H
  show (f7 _ _ && f7 _ _ && f7 _ _ && f7 _ _) = true
  simp [cW]
 | .ptrI b g c, args, x, h => by
  obtain ⟨u, rfl, H⟩ := dB h
  cases u <;> first | (cases H; done) | skip
  obtain ⟨rfl, rfl, _, rfl⟩ := AV.ptr.inj H
  show (f7 _ _ && f7 _ _ && f7 _ _) = true
  simp [cW]
 | .ms b g, args, x, h => by
  obtain ⟨u, rfl, H⟩ := dB h
  cases u <;> first | (cases H; done) | skip
  obtain ⟨rfl, rfl, _, _⟩ := AV.ms.inj H
  show (f7 _ _ && f7 _ _) = true
  simp [cW]
 | .msw b g, args, x, h => by
  obtain ⟨u, rfl, H⟩ := dB h
  cases u <;> first | (cases H; done) | skip
  obtain ⟨rfl, rfl⟩ := AV.msw.inj H
  show (f7 _ _ && f7 _ _) = true
  simp [cW]
 | .fn f N M, args, x, h => by
  obtain ⟨K, O, h, I, J⟩ := h
  obtain ⟨u, rfl, H⟩ := dB h
  cases u <;> first | (cases H; done) | skip
  obtain ⟨rfl, rfl, rfl⟩ := AV.fn.inj H
  show (f7 f f && jQ N _ && jQ M _) = true
  simp [cW, lW I, lW J]
 | .agg l, args, x, h => by
  obtain ⟨cs, h, I⟩ := h
  obtain ⟨u, rfl, H⟩ := dB h
  cases u <;> first | (cases H; done) | skip
  obtain rfl := AV.agg.inj H
  exact lW (s := l) I
 | .tup l, args, x, h => by
  obtain ⟨cs, h, I⟩ := h
  obtain ⟨u, rfl, H⟩ := dB h
  cases u <;> first | (cases H; done) | skip
  obtain rfl := AV.tup.inj H
  exact lW (s := l) I
 | .nil, args, x, h => by
  cases args with
  | nil => rfl
  | cons _ _ => cases h
 | .cons a b, args, x, h => by
  obtain ⟨v, r, h, I, J⟩ := h
  obtain ⟨u, us, rfl, rfl, rfl⟩ := KR h
  show (jQ a [u] && jQ b us) = true
  rw [yb]
  exact ⟨lW (s := a) (args := [u]) I, lW J⟩
 | .bnone, args, x, h => h.elim
 | .bts _ _ _ _ _, args, x, h => h.elim
 | .bcells _ _ _ _, args, x, h => h.elim
 | .bos _ _ _ _, args, x, h => h.elim
def Sh.oneM : Sh → Bool
 | .bnone => true
 | .bts _ _ _ _ _ => true
 | .bcells _ _ _ _ => true
 | .bos _ _ _ _ => true
 | _ => false
def Sh.okH : Sh → Bool
 | .nil => true
 | .cons (.agg (.cons (.ptrI b g c) (.cons v .nil))) r => f7 b 0 && f7 g 0 && v.one && r.okH
 | _ => false
def Sh.okM : Sh → Bool
 | .nil => true
 | .cons a b => a.oneM && a.okM && b.okM
 | .bnone => true
 | .bts _ _ _ _ _ => true
 | .bcells _ _ _ l => l.okL
 | .bos _ _ _ l => l.okL && l.okH
 | _ => false
def Lv (vs : List KV) : Prop := ∀ v ∈ vs, ∃ i c w, v = .agg [.ptr 0 0 i c, w]
theorem Lv.eq : ∀ {vs : List KV}, Lv vs → jS (iJ vs) = vs
 | [], _ => rfl
 | v :: vs, h => by
  obtain ⟨i, c, w, rfl⟩ := h v (ym ..)
  have H := Lv.eq (vs := vs) fun v I => h v (yh _ I)
  show KV.agg _ :: jS (iJ vs) = _
  rw [H]
theorem OV {v : Sh} (I : v.one = true) (d : (Sh.cons v .nil).den) : ∃ w, c9 (.cons v .nil) d = [w] := by
 obtain ⟨w, H⟩ := HM I (P2.fst v.dflt v.un Sh.nil.un d)
 refine ⟨w, ?_⟩
 show c9 v (P2.fst v.dflt v.un Sh.nil.un d) ++ [] = _
 rw [H]; rfl
theorem NS {c : Nat} {v : Sh} (I : v.one = true) (d : (Sh.agg (.cons (.ptrI 0 0 c) (.cons v .nil))).den) : ∃ i w, c9 (.agg (.cons (.ptrI 0 0 c) (.cons v .nil))) d = [.agg [.ptr 0 0 i c, w]] := by
 obtain ⟨w, H⟩ := OV I (P2.snd (Sh.cons v .nil).dflt (Sh.ptrI 0 0 c).un (Sh.cons v .nil).un d)
 refine ⟨P2.fst (Sh.ptrI 0 0 c).dflt (Sh.ptrI 0 0 c).un (Sh.cons v .nil).un d, w, ?_⟩
 show [KV.agg ([KV.ptr 0 0 _ c] ++ c9 (.cons v .nil) (P2.snd (Sh.cons v .nil).dflt (Sh.ptrI 0 0 c).un (Sh.cons v .nil).un d))] = _
 rw [H]; rfl
theorem GR : ∀ {l : Sh}, l.okH = true → ∀ p : l.den, Lv (c9 l p)
 | .nil, _, _ => fun v I => by cases I
 | .cons (.agg (.cons (.ptrI b g c) (.cons v .nil))) r, h, p => by
  have J : (f7 b 0 && f7 g 0 && v.one && r.okH) = true := h
  simp only [yb, cW] at J
  obtain ⟨⟨⟨rfl, rfl⟩, I⟩, hr⟩ := J
  intro u H
  have H : u ∈ c9 (.agg (.cons (.ptrI 0 0 c) (.cons v .nil))) (P2.fst (Sh.agg (.cons (.ptrI 0 0 c) (.cons v .nil))).dflt (Sh.agg (.cons (.ptrI 0 0 c) (.cons v .nil))).un r.un p) ++ c9 r (P2.snd r.dflt (Sh.agg (.cons (.ptrI 0 0 c) (.cons v .nil))).un r.un p) := H
  obtain ⟨i, w, e⟩ := NS (c := c) I (P2.fst (Sh.agg (.cons (.ptrI 0 0 c) (.cons v .nil))).dflt (Sh.agg (.cons (.ptrI 0 0 c) (.cons v .nil))).un r.un p)
  rw [e] at H
  rcases yo1.1 H with H | H
  ·exact ⟨i, c, w, yb2.1 H⟩
  ·exact GR hr _ u H
theorem Bm {l : Sh} (h : l.okH = true) (p : l.den) : jS (iJ (c9 l p)) = c9 l p := (GR h p).eq
noncomputable def Lq : List (Nat × Nat × AV) → List AV
 | [] => []
 | h :: r => .agg [.ptr 0 0 h.1 h.2.1, h.2.2] :: Lq r
theorem nU : ∀ hs : c5, KV.downs (jS hs) = Lq (aV hs)
 | [] => rfl
 | h :: r => by
  show _ :: KV.downs (jS r) = _
  rw [nU r]; rfl
theorem FX {s : Sh} (h : s.oneM = true) (d : s.den) : ∃ x, e8 s d = [x] := by
 cases s <;> first | (cases h; done) | exact ⟨_, rfl⟩
theorem KF {β ag : Bool} {T : Ty} {xs I : List (den T)} (h : (KRow.ts β ag T xs).down = (KRow.ts β ag T I).down) : xs = I := by
 cases H : aY ag T with
 | true =>
  obtain ⟨rfl, k, rfl⟩ := aK.1 H
  exact (Row.ints.inj h).2
 | false =>
  rw [KRow.down_sl H, KRow.down_sl H] at h
  exact Db (fun x y => Fu) (Row.pvs.inj h).2.2
theorem Do : ∀ {s : Sh} {x y : s.den}, s.okM = true → aB (e8 s x) = aB (e8 s y) → x = y
 | .nil, x, y, _, _ => rfl
 | .bnone, x, y, _, _ => rfl
 | .bts gen frz β ag T, x, y, _, h => by
  have h := ya (yx h).1
  exact KF (congrArg a9.row h)
 | .bcells gen frz e l, x, y, I, h => by
  have h := ya (yx h).1
  have K : Row.cells e (KV.downs (c9 l x)) = .cells e (KV.downs (c9 l y)) := congrArg a9.row h
  have M := (Row.cells.inj K).2
  have r1 := lA.refl (s := l) I x
  have N := lA.refl (s := l) I y
  rw [M] at r1
  exact lA.unique (s := l) r1 N
 | .bos gen frz T l, x, y, I, h => by
  have H : (l.okL && l.okH) = true := I
  rw [yb] at H
  have h := ya (yx h).1
  have K : (KRow.os T (P2.fst (A := List (Go.Ab.den T)) [] false l.un x) (iJ (c9 l (P2.snd l.dflt false l.un x)))).down = (KRow.os T (P2.fst (A := List (Go.Ab.den T)) [] false l.un y) (iJ (c9 l (P2.snd l.dflt false l.un y)))).down := congrArg a9.row h
  obtain ⟨_, M, W⟩ := Row.own.inj K
  have V : KV.downs (c9 l (P2.snd l.dflt false l.un x)) = KV.downs (c9 l (P2.snd l.dflt false l.un y)) := by
   have J := congrArg KV.downs (Bm H.2 (P2.snd l.dflt false l.un x))
   have U := congrArg KV.downs (Bm H.2 (P2.snd l.dflt false l.un y))
   rw [nU] at J U
   rw [← J, ← U, W]
  have r1 := lA.refl (s := l) H.1 (P2.snd l.dflt false l.un x)
  have N := lA.refl (s := l) H.1 (P2.snd l.dflt false l.un y)
  rw [V] at r1
  exact P2.ext (da := []) (db := l.dflt) (Db (fun x y => Fu) M) (lA.unique (s := l) r1 N)
 | .cons a b, x, y, I, h => by
  have H : (a.oneM && a.okM && b.okM) = true := I
  simp only [yb] at H
  have O : aB (e8 a (P2.fst a.dflt a.un b.un x) ++ e8 b (P2.snd b.dflt a.un b.un x)) = aB (e8 a (P2.fst a.dflt a.un b.un y) ++ e8 b (P2.snd b.dflt a.un b.un y)) := h
  obtain ⟨u, Z⟩ := FX H.1.1 (P2.fst a.dflt a.un b.un x)
  obtain ⟨v, Y⟩ := FX H.1.1 (P2.fst a.dflt a.un b.un y)
  have J : aB (e8 a (P2.fst a.dflt a.un b.un x)) = aB (e8 a (P2.fst a.dflt a.un b.un y)) ∧ aB (e8 b (P2.snd b.dflt a.un b.un x)) = aB (e8 b (P2.snd b.dflt a.un b.un y)) := by
   rw [Z, Y] at O ⊢
   have := yx O
   exact ⟨congrArg (fun z => [z]) this.1, this.2⟩
  exact P2.ext (Do H.1.2 J.1) (Do H.2 J.2)
 | .int _, x, y, I, h | .bool, x, y, I, h | .str, x, y, I, h | .nilS, x, y, I, h | .nilP, x, y, I, h | .undef, x, y, I, h | .sl _ _ _, x, y, I, h | .el _ _ _ _, x, y, I, h | .ptr _ _ _ _, x, y, I, h
 | .ptrI _ _ _, x, y, I, h | .ms _ _, x, y, I, h | .msw _ _, x, y, I, h | .fn _ _ _, x, y, I, h | .agg _, x, y, I, h | .tup _, x, y, I, h => by cases I
theorem v5 {mem : aD} {v : Option a9} (h : aB mem = [v]) : ∃ u, mem = [u] ∧ u.map dD.down = v := by
 match mem, h with
 | [u], h => exact ⟨u, rfl, (yx h).1⟩
 | [], h => cases h
 | _ :: _ :: _, h => cases h
theorem Di : ∀ {s : Sh} {mem : aD} {x : s.den}, s.okM = true → aB mem = aB (e8 s x) → Ch s mem = true
 | .nil, mem, x, _, h => by
  cases mem with
  | nil => rfl
  | cons _ _ => cases h
 | .bnone, mem, x, _, h => by
  obtain ⟨u, rfl, H⟩ := v5 (v := none) h
  cases u with
  | none => rfl
  | some _ => cases H
 | .bts gen frz β ag T, mem, x, _, h => by
  obtain ⟨u, rfl, H⟩ := v5 h
  cases u with
  | none => cases H
  | some u =>
   have H := ya H
   obtain ⟨g', K, row⟩ := u
   have N : g' = gen := congrArg a9.gen H
   have O : K = frz := congrArg a9.frz H
   have M : row.down = (KRow.ts β ag T x).down := congrArg a9.row H
   subst N; subst O
   cases row with
   | ts β' U V xs =>
    show (f7 g' g' && eG K K) = true
    cases K <;> simp [cW, eG]
   | cells e cs =>
    exfalso
    have := congrArg Row.isCells M
    rw [fD, fD] at this
    cases this
   | os V xs hs =>
    exfalso
    have := congrArg Row.isOwn M
    rw [dJ, dJ] at this
    cases this
 | .bcells gen frz e l, mem, x, I, h => by
  obtain ⟨u, rfl, H⟩ := v5 h
  cases u with
  | none => cases H
  | some u =>
   have H := ya H
   obtain ⟨g', K, row⟩ := u
   have N : g' = gen := congrArg a9.gen H
   have O : K = frz := congrArg a9.frz H
   have M : row.down = (KRow.cells e (c9 l x)).down := congrArg a9.row H
   subst N; subst O
   cases row with
   | ts β' U V xs =>
    exfalso
    have := congrArg Row.isCells M
    rw [fD, fD] at this
    cases this
   | os V xs hs =>
    exfalso
    have := congrArg Row.isOwn M
    rw [dJ, dJ] at this
    cases this
   | cells Z cs =>
    obtain ⟨h4, Y⟩ := Row.cells.inj M
    subst h4
    have r1 := lA.refl (s := l) I x
    rw [← Y] at r1
    show (f7 g' g' && eG K K && f7 Z Z && jQ l cs) = true
    have := lW (s := l) r1
    cases K <;> simp [cW, eG, this]
 | .bos gen frz T l, mem, x, I, h => by
  have J : (l.okL && l.okH) = true := I
  rw [yb] at J
  obtain ⟨u, rfl, H⟩ := v5 h
  cases u with
  | none => cases H
  | some u =>
   have H := ya H
   obtain ⟨g', K, row⟩ := u
   have N : g' = gen := congrArg a9.gen H
   have O : K = frz := congrArg a9.frz H
   have M : row.down = (KRow.os T (P2.fst (A := List (Go.Ab.den T)) [] false l.un x) (iJ (c9 l (P2.snd l.dflt false l.un x)))).down := congrArg a9.row H
   subst N; subst O
   cases row with
   | ts β' U V xs =>
    exfalso
    have := congrArg Row.isOwn M
    rw [dJ, dJ] at this
    cases this
   | cells Z cs =>
    exfalso
    have := congrArg Row.isOwn M
    rw [dJ, dJ] at this
    cases this
   | os V xs hs =>
    obtain ⟨_, _, Y⟩ := Row.own.inj M
    have r1 := lA.refl (s := l) J.1 (P2.snd l.dflt false l.un x)
    have e1 := congrArg KV.downs (Bm J.2 (P2.snd l.dflt false l.un x))
    rw [nU, ← Y, ← nU] at e1
    rw [← e1] at r1
    show (f7 g' g' && eG K K && jQ l (jS hs)) = true
    have := lW (s := l) r1
    cases K <;> simp [cW, eG, this]
 | .cons a b, mem, x, I, h => by
  have J : (a.oneM && a.okM && b.okM) = true := I
  simp only [yb] at J
  obtain ⟨u, H⟩ := FX J.1.1 (P2.fst a.dflt a.un b.un x)
  have W : aB mem = aB (e8 a (P2.fst a.dflt a.un b.un x) ++ e8 b (P2.snd b.dflt a.un b.un x)) := h
  rw [H] at W
  cases mem with
  | nil => cases W
  | cons y r =>
   have := yx W
   show (Ch a [y] && Ch b r) = true
   rw [yb]
   refine ⟨Di (s := a) (x := P2.fst a.dflt a.un b.un x) J.1.2 ?_, Di J.2 this.2⟩
   rw [H]
   exact congrArg (fun z => [z]) this.1
 | .int _, m, x, I, h | .bool, m, x, I, h | .str, m, x, I, h | .nilS, m, x, I, h | .nilP, m, x, I, h | .undef, m, x, I, h | .sl _ _ _, m, x, I, h | .el _ _ _ _, m, x, I, h | .ptr _ _ _ _, m, x, I, h
 | .ptrI _ _ _, m, x, I, h | .ms _ _, m, x, I, h | .msw _ _, m, x, I, h | .fn _ _ _, m, x, I, h | .agg _, m, x, I, h | .tup _, m, x, I, h => by cases I
end Go.Ab
