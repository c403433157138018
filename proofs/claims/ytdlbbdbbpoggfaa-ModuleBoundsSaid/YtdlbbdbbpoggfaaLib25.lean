import Derived.Test.YtdlbbdbbpoggfaaLib24
set_option linter.unusedVariables false
set_option linter.unusedSectionVars false
set_option linter.unusedSimpArgs false
namespace Go.Ab
variable [b4]
theorem dB {args : List KV} {v : AV} (h : KV.downs args = [v]) : ∃ u, args = [u] ∧ u.down = v := by
 match args, h with
 | [u], h => exact ⟨u, rfl, (yx h).1⟩
 | [], h => cases h
 | _ :: _ :: _, h => cases h
theorem Kv {args : List KV} {v : AV} {r : List AV} (h : KV.downs args = v :: r) : ∃ u us, args = u :: us ∧ u.down = v ∧ KV.downs us = r := by
 match args, h with
 | u :: us, h => exact ⟨u, us, rfl, (yx h).1, (yx h).2⟩
 | [], h => cases h
theorem lY : ∀ {s : Sh} {args : List KV} {x : s.den}, lC s (KV.downs args) x → jR s args = true
 | .int k, args, x, h => by
  obtain ⟨u, rfl, H⟩ := dB h
  cases u <;> first | (cases H; done) | skip
  rename_i v
  have H : AV.lit v = .lit (.int k x) := H
  obtain rfl := AV.lit.inj H
  rfl
 | .bool, args, x, h => by
  obtain ⟨u, rfl, H⟩ := dB h
  cases u <;> first | (cases H; done) | skip
  rename_i v
  have H : AV.lit v = .lit (.bool x) := H
  obtain rfl := AV.lit.inj H
  rfl
 | .str, args, x, h => by
  obtain ⟨u, rfl, H⟩ := dB h
  cases u <;> first | (cases H; done) | skip
  rename_i v
  have H : AV.lit v = .lit (.string x) := H
  obtain rfl := AV.lit.inj H
  rfl
 | .nilS, args, x, h => by
  obtain ⟨u, rfl, H⟩ := dB h
  cases u <;> first | (cases H; done) | skip
  rename_i v
  obtain rfl := AV.lit.inj H
  rfl
 | .nilP, args, x, h => by
  obtain ⟨u, rfl, H⟩ := dB h
  cases u <;> first | (cases H; done) | skip
  rename_i v
  obtain rfl := AV.lit.inj H
  rfl
 | .undef, args, x, h => by
  obtain ⟨u, rfl, H⟩ := dB h
  cases u <;> first | (cases H; done) | skip
  rename_i v
  obtain rfl := AV.lit.inj H
  rfl
 | .sl β ag T, args, x, h => by
  rcases h with ⟨β', _, h⟩ | ⟨h, _⟩
  ·obtain ⟨u, rfl, H⟩ := dB h
   have hs := qX ag T x
   cases u with
   | tsl _ _ _ _ => rfl
   | dead => rw [← (AV.imm.inj H).2] at hs; cases hs
   | gone => rw [← (AV.imm.inj H).2] at hs; cases hs
   | unkB => rw [← (AV.imm.inj H).2] at hs; cases hs
   | _ => cases H
  ·obtain ⟨u, rfl, H⟩ := dB h
   cases u <;> first | (cases H; done) | skip
   rename_i v
   obtain rfl := AV.lit.inj H
   rfl
 | .el β ag T c, args, x, h => by
  obtain ⟨β', _, h⟩ := h
  obtain ⟨u, rfl, H⟩ := dB h
  cases u <;> first | (cases H; done) | skip
  rename_i c'
  have := (AV.el.inj H).2.2
  subst this
  exact cV.2 rfl
 | .ptr b g i c, args, x, h => by
  obtain ⟨u, rfl, H⟩ := dB h
  cases u <;> first | (cases H; done) | skip
  obtain ⟨rfl, rfl, rfl, rfl⟩ := AV.ptr.inj H
  show (f6 _ _ && f6 _ _ && f6 _ _ && f6 _ _) = true
  simp [cV]
 | .ptrI b g c, args, x, h => by
  obtain ⟨u, rfl, H⟩ := dB h
  cases u <;> first | (cases H; done) | skip
  obtain ⟨rfl, rfl, _, rfl⟩ := AV.ptr.inj H
  show (f6 _ _ && f6 _ _ && f6 _ _) = true
  simp [cV]
 | .ms b g, args, x, h => by
  obtain ⟨u, rfl, H⟩ := dB h
  cases u <;> first | (cases H; done) | skip
  obtain ⟨rfl, rfl, _, _⟩ := AV.ms.inj H
  show (f6 _ _ && f6 _ _) = true
  simp [cV]
 | .msw b g, args, x, h => by
  obtain ⟨u, rfl, H⟩ := dB h
  cases u <;> first | (cases H; done) | skip
  obtain ⟨rfl, rfl⟩ := AV.msw.inj H
  show (f6 _ _ && f6 _ _) = true
  simp [cV]
 | .fn f K M, args, x, h => by
  obtain ⟨N, O, h, I, J⟩ := h
  obtain ⟨u, rfl, H⟩ := dB h
  cases u <;> first | (cases H; done) | skip
  obtain ⟨rfl, rfl, rfl⟩ := AV.fn.inj H
  show (f6 f f && jR K _ && jR M _) = true
  simp [cV, lY I, lY J]
 | .agg l, args, x, h => by
  obtain ⟨cs, h, I⟩ := h
  obtain ⟨u, rfl, H⟩ := dB h
  cases u <;> first | (cases H; done) | skip
  obtain rfl := AV.agg.inj H
  exact lY (s := l) I
 | .tup l, args, x, h => by
  obtain ⟨cs, h, I⟩ := h
  obtain ⟨u, rfl, H⟩ := dB h
  cases u <;> first | (cases H; done) | skip
  obtain rfl := AV.tup.inj H
  exact lY (s := l) I
 | .nil, args, x, h => by
  cases args with
  | nil => rfl
  | cons _ _ => cases h
 | .cons a b, args, x, h => by
  obtain ⟨v, r, h, I, J⟩ := h
  obtain ⟨u, us, rfl, rfl, rfl⟩ := Kv h
  show (jR a [u] && jR b us) = true
  rw [yb]
  exact ⟨lY (s := a) (args := [u]) I, lY J⟩
 | .bnone, args, x, h => h.elim
 | .bts _ _ _ _ _, args, x, h => h.elim
 | .bcells _ _ _ _, args, x, h => h.elim
 | .bos _ _ _ _, args, x, h => h.elim
def Sh.oneM : Sh → Bool
 | .bnone => true
 | .bts _ _ _ _ _ => true
 | .bcells _ _ _ _ => true
 | .bos _ _ _ _ => true
 | _ => false
def Sh.okH : Sh → Bool
 | .nil => true
 | .cons (.agg (.cons (.ptrI b g c) (.cons v .nil))) r => f6 b 0 && f6 g 0 && v.one && r.okH
 | _ => false
def Sh.okM : Sh → Bool
 | .nil => true
 | .cons a b => a.oneM && a.okM && b.okM
 | .bnone => true
 | .bts _ _ _ _ _ => true
 | .bcells _ _ _ l => l.okL
 | .bos _ _ _ l => l.okL && l.okH
 | _ => false
def LJ (vs : List KV) : Prop := ∀ v ∈ vs, ∃ i c w, v = .agg [.ptr 0 0 i c, w]
theorem LJ.eq : ∀ {vs : List KV}, LJ vs → j6 (iI vs) = vs
 | [], _ => rfl
 | v :: vs, h => by
  obtain ⟨i, c, w, rfl⟩ := h v (ym ..)
  have H := LJ.eq (vs := vs) fun v I => h v (yh _ I)
  show KV.agg _ :: j6 (iI vs) = _
  rw [H]
theorem OO {v : Sh} (I : v.one = true) (d : (Sh.cons v .nil).den) : ∃ w, c9 (.cons v .nil) d = [w] := by
 obtain ⟨w, H⟩ := Ic I (P2.fst v.dflt v.un Sh.nil.un d)
 refine ⟨w, ?_⟩
 show c9 v (P2.fst v.dflt v.un Sh.nil.un d) ++ [] = _
 rw [H]; rfl
theorem Nx {c : Nat} {v : Sh} (I : v.one = true) (d : (Sh.agg (.cons (.ptrI 0 0 c) (.cons v .nil))).den) : ∃ i w, c9 (.agg (.cons (.ptrI 0 0 c) (.cons v .nil))) d = [.agg [.ptr 0 0 i c, w]] := by
 obtain ⟨w, H⟩ := OO I (P2.snd (Sh.cons v .nil).dflt (Sh.ptrI 0 0 c).un (Sh.cons v .nil).un d)
 refine ⟨P2.fst (Sh.ptrI 0 0 c).dflt (Sh.ptrI 0 0 c).un (Sh.cons v .nil).un d, w, ?_⟩
 show [KV.agg ([KV.ptr 0 0 _ c] ++ c9 (.cons v .nil) (P2.snd (Sh.cons v .nil).dflt (Sh.ptrI 0 0 c).un (Sh.cons v .nil).un d))] = _
 rw [H]; rfl
theorem GD : ∀ {l : Sh}, l.okH = true → ∀ p : l.den, LJ (c9 l p)
 | .nil, _, _ => fun v I => by cases I
 | .cons (.agg (.cons (.ptrI b g c) (.cons v .nil))) r, h, p => by
  have J : (f6 b 0 && f6 g 0 && v.one && r.okH) = true := h
  simp only [yb, cV] at J
  obtain ⟨⟨⟨rfl, rfl⟩, I⟩, hr⟩ := J
  intro u H
  have H : u ∈ c9 (.agg (.cons (.ptrI 0 0 c) (.cons v .nil))) (P2.fst (Sh.agg (.cons (.ptrI 0 0 c) (.cons v .nil))).dflt (Sh.agg (.cons (.ptrI 0 0 c) (.cons v .nil))).un r.un p) ++ c9 r (P2.snd r.dflt (Sh.agg (.cons (.ptrI 0 0 c) (.cons v .nil))).un r.un p) := H
  obtain ⟨i, w, e⟩ := Nx (c := c) I (P2.fst (Sh.agg (.cons (.ptrI 0 0 c) (.cons v .nil))).dflt (Sh.agg (.cons (.ptrI 0 0 c) (.cons v .nil))).un r.un p)
  rw [e] at H
  rcases yo1.1 H with H | H
  ·exact ⟨i, c, w, yb2.1 H⟩
  ·exact GD hr _ u H
theorem Bk {l : Sh} (h : l.okH = true) (p : l.den) : j6 (iI (c9 l p)) = c9 l p := (GD h p).eq
noncomputable def LZ : List (Nat × Nat × AV) → List AV
 | [] => []
 | h :: r => .agg [.ptr 0 0 h.1 h.2.1, h.2.2] :: LZ r
theorem nI : ∀ hs : cY, KV.downs (j6 hs) = LZ (aV hs)
 | [] => rfl
 | h :: r => by
  show _ :: KV.downs (j6 r) = _
  rw [nI r]; rfl
theorem Er {s : Sh} (h : s.oneM = true) (d : s.den) : ∃ x, e8 s d = [x] := by
 cases s <;> first | (cases h; done) | exact ⟨_, rfl⟩
theorem Lj {β ag : Bool} {T : Ty} {xs I : List (den T)} (h : (KRow.ts β ag T xs).down = (KRow.ts β ag T I).down) : xs = I := by
 cases H : aY ag T with
 | true =>
  obtain ⟨rfl, k, rfl⟩ := aK.1 H
  exact (Row.ints.inj h).2
 | false =>
  rw [KRow.down_sl H, KRow.down_sl H] at h
  exact Dg (fun x y => FL) (Row.pvs.inj h).2.2
theorem Fp : ∀ {s : Sh} {x y : s.den}, s.okM = true → aB (e8 s x) = aB (e8 s y) → x = y
 | .nil, x, y, _, _ => rfl
 | .bnone, x, y, _, _ => rfl
 | .bts gen frz β ag T, x, y, _, h => by
  have h := ya (yx h).1
  exact Lj (congrArg a9.row h)
 | .bcells gen frz e l, x, y, I, h => by
  have h := ya (yx h).1
  have K : Row.cells e (KV.downs (c9 l x)) = .cells e (KV.downs (c9 l y)) := congrArg a9.row h
  have M := (Row.cells.inj K).2
  have r1 := lC.refl (s := l) I x
  have N := lC.refl (s := l) I y
  rw [M] at r1
  exact lC.unique (s := l) r1 N
 | .bos gen frz T l, x, y, I, h => by
  have H : (l.okL && l.okH) = true := I
  rw [yb] at H
  have h := ya (yx h).1
  have K : (KRow.os T (P2.fst (A := List (Go.Ab.den T)) [] false l.un x) (iI (c9 l (P2.snd l.dflt false l.un x)))).down = (KRow.os T (P2.fst (A := List (Go.Ab.den T)) [] false l.un y) (iI (c9 l (P2.snd l.dflt false l.un y)))).down := congrArg a9.row h
  obtain ⟨_, M, Y⟩ := Row.own.inj K
  have V : KV.downs (c9 l (P2.snd l.dflt false l.un x)) = KV.downs (c9 l (P2.snd l.dflt false l.un y)) := by
   have J := congrArg KV.downs (Bk H.2 (P2.snd l.dflt false l.un x))
   have O := congrArg KV.downs (Bk H.2 (P2.snd l.dflt false l.un y))
   rw [nI] at J O
   rw [← J, ← O, Y]
  have r1 := lC.refl (s := l) H.1 (P2.snd l.dflt false l.un x)
  have N := lC.refl (s := l) H.1 (P2.snd l.dflt false l.un y)
  rw [V] at r1
  exact P2.ext (da := []) (db := l.dflt) (Dg (fun x y => FL) M) (lC.unique (s := l) r1 N)
 | .cons a b, x, y, I, h => by
  have H : (a.oneM && a.okM && b.okM) = true := I
  simp only [yb] at H
  have U : aB (e8 a (P2.fst a.dflt a.un b.un x) ++ e8 b (P2.snd b.dflt a.un b.un x)) = aB (e8 a (P2.fst a.dflt a.un b.un y) ++ e8 b (P2.snd b.dflt a.un b.un y)) := h
  obtain ⟨u, W⟩ := Er H.1.1 (P2.fst a.dflt a.un b.un x)
  obtain ⟨v, Z⟩ := Er H.1.1 (P2.fst a.dflt a.un b.un y)
  have J : aB (e8 a (P2.fst a.dflt a.un b.un x)) = aB (e8 a (P2.fst a.dflt a.un b.un y)) ∧ aB (e8 b (P2.snd b.dflt a.un b.un x)) = aB (e8 b (P2.snd b.dflt a.un b.un y)) := by
   rw [W, Z] at U ⊢
   have := yx U
   exact ⟨congrArg (fun z => [z]) this.1, this.2⟩
  exact P2.ext (Fp H.1.2 J.1) (Fp H.2 J.2)
 | .int _, x, y, I, h | .bool, x, y, I, h | .str, x, y, I, h | .nilS, x, y, I, h | .nilP, x, y, I, h | .undef, x, y, I, h | .sl _ _ _, x, y, I, h | .el _ _ _ _, x, y, I, h | .ptr _ _ _ _, x, y, I, h
 | .ptrI _ _ _, x, y, I, h | .ms _ _, x, y, I, h | .msw _ _, x, y, I, h | .fn _ _ _, x, y, I, h | .agg _, x, y, I, h | .tup _, x, y, I, h => by cases I
theorem wI {mem : aD} {v : Option a9} (h : aB mem = [v]) : ∃ u, mem = [u] ∧ u.map dE.down = v := by
 match mem, h with
 | [u], h => exact ⟨u, rfl, (yx h).1⟩
 | [], h => cases h
 | _ :: _ :: _, h => cases h
theorem Fm : ∀ {s : Sh} {mem : aD} {x : s.den}, s.okM = true → aB mem = aB (e8 s x) → B3 s mem = true
 | .nil, mem, x, _, h => by
  cases mem with
  | nil => rfl
  | cons _ _ => cases h
 | .bnone, mem, x, _, h => by
  obtain ⟨u, rfl, H⟩ := wI (v := none) h
  cases u with
  | none => rfl
  | some _ => cases H
 | .bts gen frz β ag T, mem, x, _, h => by
  obtain ⟨u, rfl, H⟩ := wI h
  cases u with
  | none => cases H
  | some u =>
   have H := ya H
   obtain ⟨g', K, row⟩ := u
   have O : g' = gen := congrArg a9.gen H
   have V : K = frz := congrArg a9.frz H
   have M : row.down = (KRow.ts β ag T x).down := congrArg a9.row H
   subst O; subst V
   cases row with
   | ts β' N U xs =>
    show (f6 g' g' && eE K K) = true
    cases K <;> simp [cV, eE]
   | cells e cs =>
    exfalso
    have := congrArg Row.isCells M
    rw [fF, fF] at this
    cases this
   | os U xs hs =>
    exfalso
    have := congrArg Row.isOwn M
    rw [dI, dI] at this
    cases this
 | .bcells gen frz e l, mem, x, I, h => by
  obtain ⟨u, rfl, H⟩ := wI h
  cases u with
  | none => cases H
  | some u =>
   have H := ya H
   obtain ⟨g', K, row⟩ := u
   have O : g' = gen := congrArg a9.gen H
   have V : K = frz := congrArg a9.frz H
   have M : row.down = (KRow.cells e (c9 l x)).down := congrArg a9.row H
   subst O; subst V
   cases row with
   | ts β' N U xs =>
    exfalso
    have := congrArg Row.isCells M
    rw [fF, fF] at this
    cases this
   | os U xs hs =>
    exfalso
    have := congrArg Row.isOwn M
    rw [dI, dI] at this
    cases this
   | cells Y cs =>
    obtain ⟨h4, W⟩ := Row.cells.inj M
    subst h4
    have r1 := lC.refl (s := l) I x
    rw [← W] at r1
    show (f6 g' g' && eE K K && f6 Y Y && jR l cs) = true
    have := lY (s := l) r1
    cases K <;> simp [cV, eE, this]
 | .bos gen frz T l, mem, x, I, h => by
  have J : (l.okL && l.okH) = true := I
  rw [yb] at J
  obtain ⟨u, rfl, H⟩ := wI h
  cases u with
  | none => cases H
  | some u =>
   have H := ya H
   obtain ⟨g', K, row⟩ := u
   have O : g' = gen := congrArg a9.gen H
   have V : K = frz := congrArg a9.frz H
   have M : row.down = (KRow.os T (P2.fst (A := List (Go.Ab.den T)) [] false l.un x) (iI (c9 l (P2.snd l.dflt false l.un x)))).down := congrArg a9.row H
   subst O; subst V
   cases row with
   | ts β' N U xs =>
    exfalso
    have := congrArg Row.isOwn M
    rw [dI, dI] at this
    cases this
   | cells Y cs =>
    exfalso
    have := congrArg Row.isOwn M
    rw [dI, dI] at this
    cases this
   | os U xs hs =>
    obtain ⟨_, _, W⟩ := Row.own.inj M
    have r1 := lC.refl (s := l) J.1 (P2.snd l.dflt false l.un x)
    have e1 := congrArg KV.downs (Bk J.2 (P2.snd l.dflt false l.un x))
    rw [nI, ← W, ← nI] at e1
    rw [← e1] at r1
    show (f6 g' g' && eE K K && jR l (j6 hs)) = true
    have := lY (s := l) r1
    cases K <;> simp [cV, eE, this]
 | .cons a b, mem, x, I, h => by
  have J : (a.oneM && a.okM && b.okM) = true := I
  simp only [yb] at J
  obtain ⟨u, H⟩ := Er J.1.1 (P2.fst a.dflt a.un b.un x)
  have Z : aB mem = aB (e8 a (P2.fst a.dflt a.un b.un x) ++ e8 b (P2.snd b.dflt a.un b.un x)) := h
  rw [H] at Z
  cases mem with
  | nil => cases Z
  | cons y r =>
   have := yx Z
   show (B3 a [y] && B3 b r) = true
   rw [yb]
   refine ⟨Fm (s := a) (x := P2.fst a.dflt a.un b.un x) J.1.2 ?_, Fm J.2 this.2⟩
   rw [H]
   exact congrArg (fun z => [z]) this.1
 | .int _, m, x, I, h | .bool, m, x, I, h | .str, m, x, I, h | .nilS, m, x, I, h | .nilP, m, x, I, h | .undef, m, x, I, h | .sl _ _ _, m, x, I, h | .el _ _ _ _, m, x, I, h | .ptr _ _ _ _, m, x, I, h
 | .ptrI _ _ _, m, x, I, h | .ms _ _, m, x, I, h | .msw _ _, m, x, I, h | .fn _ _ _, m, x, I, h | .agg _, m, x, I, h | .tup _, m, x, I, h => by cases I
end Go.Ab
