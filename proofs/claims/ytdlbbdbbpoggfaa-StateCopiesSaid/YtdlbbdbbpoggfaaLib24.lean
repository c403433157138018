import Derived.Test.YtdlbbdbbpoggfaaLib23
set_option linter.unusedVariables false
set_option linter.unusedSectionVars false
set_option linter.unusedSimpArgs false
namespace Go.Ab
variable [GTab]
theorem zx {a b : Nat} : eqN a b = true ↔ a = b := nb
theorem P2.fst_mk' {a b : Sh} {x : a.den} {y : b.den} {p : P2 a.un b.un a.den b.den} (h : P2.mk a.un b.un x y = p) : P2.fst a.dflt a.un b.un p = x := by subst h; exact Go.Ab.fst_mk x y
theorem P2.snd_mk' {a b : Sh} {x : a.den} {y : b.den} {p : P2 a.un b.un a.den b.den} (h : P2.mk a.un b.un x y = p) : P2.snd b.dflt a.un b.un p = y := by subst h; exact Go.Ab.snd_mk x y
section
variable {nz : Bool} {vs : List KV} {m : KMem}
theorem zkV {k : IntKind} : decS nz (.int k) vs = (match vs with | [.lit (.int k' x)] => bif kEq k k' then some x else none | _ => none) := rfl
theorem zjP : decS nz .bool vs = (match vs with | [.lit (.bool x)] => some x | _ => none) := rfl
theorem zlp : decS nz .str vs = (match vs with | [.lit (.string x)] => some x | _ => none) := rfl
theorem zjk : decS nz .nilS vs = (match vs with | [.lit (.slice none 0 0)] => some () | _ => none) := rfl
theorem zjD : decS nz .nilP vs = (match vs with | [.lit (.pointer none)] => some () | _ => none) := rfl
theorem zjb : decS nz .undef vs = (match vs with | [.lit (.tuple a)] => (match a.toList with | [] => some () | _ => none) | _ => none) := rfl
theorem znJ {β ag : Bool} {T : Ty} : decS nz (.sl β ag T) vs = (match vs with
  | [.tsl β' ag' T' xs] => bif (beqB β β' || (nz && β)) && beqB ag ag' then castL T' T xs else none
  | [.lit (.slice none 0 0)] => bif nz then some [] else none
  | _ => none) := rfl
theorem znQ {β ag : Bool} {T : Ty} {c : Nat} : decS nz (.el β ag T c) vs = (match vs with
  | [.el β' ag' T' x c'] => bif (beqB β β' || (nz && β)) && beqB ag ag' && eqN c c' then castB (F := Go.Ab.den) (Ty.beq T' T) rfl x else none
  | _ => none) := rfl
theorem zle {b g i c : Nat} : decS nz (.ptr b g i c) vs = (match vs with | [.ptr b' g' i' c'] => bif eqN b b' && eqN g g' && eqN i i' && eqN c c' then some () else none | _ => none) := rfl
theorem zjE {b g c : Nat} : decS nz (.ptrI b g c) vs = (match vs with | [.ptr b' g' i c'] => bif eqN b b' && eqN g g' && eqN c c' then some i else none | _ => none) := rfl
theorem znL {b g : Nat} : decS nz (.ms b g) vs = (match vs with | [.ms b' g' o n] => bif eqN b b' && eqN g g' then some (o, n) else none | _ => none) := rfl
theorem zlJ {b g : Nat} : decS nz (.msw b g) vs = (match vs with | [.msw b' g'] => bif eqN b b' && eqN g g' then some () else none | _ => none) := rfl
theorem znZ {f : FuncId} {fi ca : Sh} : decS nz (.fn f fi ca) vs = (match vs with
  | [.fn (.func f') fi' ca'] => bif eqN f f' then
    (match decS nz fi fi' with
    | some x => (match decS nz ca ca' with | some y => some (P2.mk _ _ x y) | none => none)
    | none => none) else none
  | _ => none) := rfl
theorem zqA {l : Sh} : decS nz (.agg l) vs = (match vs with | [.agg cs] => decS nz l cs | _ => none) := rfl
theorem zqz {l : Sh} : decS nz (.tup l) vs = (match vs with | [.tup cs] => decS nz l cs | _ => none) := rfl
theorem zkU : decS nz .nil vs = (match vs with | [] => some () | _ => none) := rfl
theorem zjC {a b : Sh} : decS nz (.cons a b) vs = (match vs with
  | v :: r =>
   (match decS nz a [v] with
   | some x => (match decS nz b r with | some y => some (P2.mk _ _ x y) | none => none)
   | none => none)
  | [] => none) := rfl
theorem zpR : decM nz .nil m = (match m with | [] => some () | _ => none) := rfl
theorem zoE {a b : Sh} : decM nz (.cons a b) m = (match m with
  | x :: r =>
   (match decM nz a [x] with
   | some x => (match decM nz b r with | some y => some (P2.mk _ _ x y) | none => none)
   | none => none)
  | [] => none) := rfl
theorem zmC : decM nz .bnone m = (match m with | [none] => some () | _ => none) := rfl
theorem zpq {gen : Nat} {frz β ag : Bool} {T : Ty} : decM nz (.bts gen frz β ag T) m = (match m with
  | [some ⟨gen', frz', .ts β' ag' T' xs⟩] => bif eqN gen gen' && beqB frz frz' && beqB β β' && beqB ag ag' then castL T' T xs else none
  | _ => none) := rfl
theorem zqq {gen : Nat} {frz : Bool} {e : Nat} {l : Sh} : decM nz (.bcells gen frz e l) m = (match m with
  | [some ⟨gen', frz', .cells e' cs⟩] => bif eqN gen gen' && beqB frz frz' && eqN e e' then decS false l cs else none
  | _ => none) := rfl
theorem zpu {gen : Nat} {frz : Bool} {T : Ty} {l : Sh} : decM nz (.bos gen frz T l) m = (match m with
  | [some ⟨gen', frz', .os T' xs hs⟩] => bif eqN gen gen' && beqB frz frz' then
    (match castL T' T xs with
    | some ys => (match decS false l (holesV hs) with | some p => some (P2.mk false l.un ys p) | none => none)
    | none => none) else none
  | _ => none) := rfl
end
theorem zjT : ∀ hs : Holes, holesOf (holesV hs) = hs
 | [] => rfl
 | (i, c, v) :: hs => by
  show (i, c, v) :: holesOf (holesV hs) = _
  rw [zjT hs]
theorem zpT {A : Type} {ub : Bool} {B : Type} (d x : A) (y : B) : P2.fst d false ub (P2.mk false ub x y) = x := by cases ub <;> rfl
theorem zql {A : Type} {l : Sh} (x : A) (y : l.den) : P2.snd l.dflt false l.un (P2.mk false l.un x y) = y := by
 rcases P2.snd_mk (db := l.dflt) (ua := false) (ub := l.un) x y with h | h
 ·exact zcp h _ _
 ·exact h
theorem congr2 {α β γ : Type} (f : α → β → γ) {a a' : α} {b b' : β} (h1 : a = a') (h2 : b = b') : f a b = f a' b' := by rw [h1, h2]
theorem zfB {nz : Bool} {l : Sh} {vs : List KV} {d : l.den} (h : decS nz (.agg l) vs = some d) : ∃ cs, vs = [.agg cs] ∧ decS nz l cs = some d := by
 have h : @Eq (Option l.den) (match (generalizing := false) vs with | [.agg cs] => decS nz l cs | _ => none) (some d) := h
 split at h
 ·exact ⟨_, rfl, h⟩
 ·cases h
theorem zfy {nz : Bool} {l : Sh} {vs : List KV} {d : l.den} (h : decS nz (.tup l) vs = some d) : ∃ cs, vs = [.tup cs] ∧ decS nz l cs = some d := by
 have h : @Eq (Option l.den) (match (generalizing := false) vs with | [.tup cs] => decS nz l cs | _ => none) (some d) := h
 split at h
 ·exact ⟨_, rfl, h⟩
 ·cases h
theorem zhk {nz : Bool} {gen : Nat} {frz : Bool} {e : Nat} {l : Sh} {m : KMem} {d : l.den} (h : decM nz (.bcells gen frz e l) m = some d) : ∃ cs, m = [some ⟨gen, frz, .cells e cs⟩] ∧ decS false l cs = some d := by
 have h : @Eq (Option l.den) (match (generalizing := false) m with
  | [some ⟨gen', frz', .cells e' cs⟩] => bif eqN gen gen' && beqB frz frz' && eqN e e' then decS false l cs else none
  | _ => none) (some d) := h
 split at h
 ·obtain ⟨h1, h2⟩ := cds.1 h
  simp only [yb, zx] at h1
  obtain ⟨⟨rfl, h1⟩, rfl⟩ := h1
  obtain rfl := zan h1
  exact ⟨_, rfl, h2⟩
 ·cases h
theorem zbt : ∀ {s : Sh} {vs : List KV} {d : s.den}, decS false s vs = some d → vs = encS s d
 | .int k, vs, d, h => by
  rw [zkV] at h
  split at h <;> try contradiction
  obtain ⟨h1, h2⟩ := cds.1 h
  obtain rfl := keq.1 h1
  cases h2; rfl
 | .bool, vs, d, h => by
  rw [zjP] at h
  split at h <;> first | contradiction | cases h
  rfl
 | .str, vs, d, h => by
  rw [zlp] at h
  split at h <;> first | contradiction | cases h
  rfl
 | .nilS, vs, d, h => by
  rw [zjk] at h
  split at h <;> first | contradiction | cases h
  rfl
 | .nilP, vs, d, h => by
  rw [zjD] at h
  split at h <;> first | contradiction | cases h
  rfl
 | .undef, vs, d, h => by
  rw [zjb] at h
  split at h <;> try contradiction
  rename_i a
  split at h <;> try contradiction
  rename_i ha
  obtain ⟨l⟩ := a
  simp only at ha
  subst ha; rfl
 | .sl β ag T, vs, d, h => by
  rw [znJ] at h
  split at h <;> try contradiction
  ·rename_i β' ag' T' xs
   obtain ⟨h1, h2⟩ := cds.1 h
   simp only [Bool.false_and, Bool.or_false, yb] at h1
   obtain rfl := zan h1.1
   obtain rfl := zan h1.2
   obtain ⟨e, h2⟩ := zN h2
   subst e
   simp only at h2
   subst h2; rfl
 | .el β ag T c, vs, d, h => by
  rw [znQ] at h
  split at h <;> try contradiction
  rename_i β' ag' T' x c'
  obtain ⟨h1, h2⟩ := cds.1 h
  simp only [Bool.false_and, Bool.or_false, yb] at h1
  obtain rfl := zan h1.1.1
  obtain rfl := zan h1.1.2
  obtain rfl := zx.1 h1.2
  obtain ⟨e, h2⟩ := zbP h2
  subst e
  simp only at h2
  subst h2; rfl
 | .ptr b g i c, vs, d, h => by
  rw [zle] at h
  split at h <;> try contradiction
  obtain ⟨h1, h2⟩ := cds.1 h
  simp only [yb, zx] at h1
  obtain ⟨⟨⟨rfl, rfl⟩, rfl⟩, rfl⟩ := h1
  rfl
 | .ptrI b g c, vs, d, h => by
  rw [zjE] at h
  split at h <;> try contradiction
  obtain ⟨h1, h2⟩ := cds.1 h
  simp only [yb, zx] at h1
  obtain ⟨⟨rfl, rfl⟩, rfl⟩ := h1
  cases h2
  rfl
 | .ms b g, vs, d, h => by
  rw [znL] at h
  split at h <;> try contradiction
  obtain ⟨h1, h2⟩ := cds.1 h
  simp only [yb, zx] at h1
  obtain ⟨rfl, rfl⟩ := h1
  cases h2
  rfl
 | .msw b g, vs, d, h => by
  rw [zlJ] at h
  split at h <;> try contradiction
  obtain ⟨h1, h2⟩ := cds.1 h
  simp only [yb, zx] at h1
  obtain ⟨rfl, rfl⟩ := h1
  rfl
 | .fn f fi ca, vs, d, h => by
  rw [znZ] at h
  split at h <;> try contradiction
  obtain ⟨h1, h2⟩ := cds.1 h
  obtain rfl := zx.1 h1
  split at h2 <;> try contradiction
  rename_i x hx
  split at h2 <;> try contradiction
  rename_i y hy
  have hp := ya h2
  exact congr2 (fun u v => [KV.fn (.func f) u v]) ((zbt hx).trans (congrArg (encS fi) (P2.fst_mk' hp).symm)) ((zbt hy).trans (congrArg (encS ca) (P2.snd_mk' hp).symm))
 | .agg l, vs, d, h => by
  obtain ⟨cs, rfl, h⟩ := zfB h
  exact congrArg (fun u => [KV.agg u]) (zbt (s := l) h)
 | .tup l, vs, d, h => by
  obtain ⟨cs, rfl, h⟩ := zfy h
  exact congrArg (fun u => [KV.tup u]) (zbt (s := l) h)
 | .nil, vs, d, h => by
  rw [zkU] at h
  split at h <;> first | contradiction | cases h
  rfl
 | .cons a b, vs, d, h => by
  rw [zjC] at h
  split at h <;> try contradiction
  split at h <;> try contradiction
  rename_i x hx
  split at h <;> try contradiction
  rename_i y hy
  have hp := ya h
  exact congr2 (fun (u v : List KV) => u ++ v) ((zbt hx).trans (congrArg (encS a) (P2.fst_mk' hp).symm)) ((zbt hy).trans (congrArg (encS b) (P2.snd_mk' hp).symm))
 | .bnone, vs, d, h => by cases h
 | .bts _ _ _ _ _, vs, d, h => by cases h
 | .bcells _ _ _ _, vs, d, h => by cases h
 | .bos _ _ _ _, vs, d, h => by cases h
theorem zbX : ∀ {s : Sh} {vs : List KV} {d : s.den}, decS true s vs = some d → LeS s (KV.downs vs) d
 | .int k, vs, d, h => by
  rw [zkV] at h
  split at h <;> try contradiction
  obtain ⟨h1, h2⟩ := cds.1 h
  obtain rfl := keq.1 h1
  cases h2; rfl
 | .bool, vs, d, h => by
  rw [zjP] at h
  split at h <;> first | contradiction | cases h
  rfl
 | .str, vs, d, h => by
  rw [zlp] at h
  split at h <;> first | contradiction | cases h
  rfl
 | .nilS, vs, d, h => by
  rw [zjk] at h
  split at h <;> first | contradiction | cases h
  rfl
 | .nilP, vs, d, h => by
  rw [zjD] at h
  split at h <;> first | contradiction | cases h
  rfl
 | .undef, vs, d, h => by
  rw [zjb] at h
  split at h <;> try contradiction
  rename_i a
  split at h <;> try contradiction
  rename_i ha
  obtain ⟨l⟩ := a
  simp only at ha
  subst ha; rfl
 | .sl β ag T, vs, d, h => by
  rw [znJ] at h
  split at h <;> try contradiction
  ·rename_i β' ag' T' xs
   obtain ⟨h1, h2⟩ := cds.1 h
   simp only [ym3, yb, yw1] at h1
   obtain rfl := zan h1.2
   obtain ⟨e, h2⟩ := zN h2
   subst e
   simp only at h2
   subst h2
   refine .inl ⟨β', fun hb => ?_, rfl⟩
   rcases h1.1 with h | h
   ·rw [zan h]; exact hb
   ·exact h
  ·exact .inr ⟨rfl, (ya h).symm⟩
 | .el β ag T c, vs, d, h => by
  rw [znQ] at h
  split at h <;> try contradiction
  rename_i β' ag' T' x c'
  obtain ⟨h1, h2⟩ := cds.1 h
  simp only [ym3, yb, yw1] at h1
  obtain rfl := zan h1.1.2
  obtain rfl := zx.1 h1.2
  obtain ⟨e, h2⟩ := zbP h2
  subst e
  simp only at h2
  subst h2
  refine ⟨β', fun hb => ?_, rfl⟩
  rcases h1.1.1 with h | h
  ·rw [zan h]; exact hb
  ·exact h
 | .ptr b g i c, vs, d, h => by
  rw [zle] at h
  split at h <;> try contradiction
  obtain ⟨h1, h2⟩ := cds.1 h
  simp only [yb, zx] at h1
  obtain ⟨⟨⟨rfl, rfl⟩, rfl⟩, rfl⟩ := h1
  rfl
 | .ptrI b g c, vs, d, h => by
  rw [zjE] at h
  split at h <;> try contradiction
  obtain ⟨h1, h2⟩ := cds.1 h
  simp only [yb, zx] at h1
  obtain ⟨⟨rfl, rfl⟩, rfl⟩ := h1
  cases h2
  rfl
 | .ms b g, vs, d, h => by
  rw [znL] at h
  split at h <;> try contradiction
  obtain ⟨h1, h2⟩ := cds.1 h
  simp only [yb, zx] at h1
  obtain ⟨rfl, rfl⟩ := h1
  cases h2
  rfl
 | .msw b g, vs, d, h => by
  rw [zlJ] at h
  split at h <;> try contradiction
  obtain ⟨h1, h2⟩ := cds.1 h
  simp only [yb, zx] at h1
  obtain ⟨rfl, rfl⟩ := h1
  rfl
 | .fn f fi ca, vs, d, h => by
  rw [znZ] at h
  split at h <;> try contradiction
  obtain ⟨h1, h2⟩ := cds.1 h
  obtain rfl := zx.1 h1
  split at h2 <;> try contradiction
  rename_i x hx
  split at h2 <;> try contradiction
  rename_i y hy
  have hp := ya h2
  have e1 := P2.fst_mk' hp
  have e2 := P2.snd_mk' hp
  exact ⟨_, _, rfl, e1 ▸ zbX hx, e2 ▸ zbX hy⟩
 | .agg l, vs, d, h => by
  obtain ⟨cs, rfl, h⟩ := zfB h
  exact ⟨_, rfl, zbX (s := l) h⟩
 | .tup l, vs, d, h => by
  obtain ⟨cs, rfl, h⟩ := zfy h
  exact ⟨_, rfl, zbX (s := l) h⟩
 | .nil, vs, d, h => by
  rw [zkU] at h
  split at h <;> first | contradiction | cases h
  rfl
 | .cons a b, vs, d, h => by
  rw [zjC] at h
  split at h <;> try contradiction
  split at h <;> try contradiction
  rename_i x hx
  split at h <;> try contradiction
  rename_i y hy
  have hp := ya h
  have e1 := P2.fst_mk' hp
  have e2 := P2.snd_mk' hp
  exact ⟨_, _, rfl, e1 ▸ zbX hx, e2 ▸ zbX hy⟩
 | .bnone, vs, d, h => by cases h
 | .bts _ _ _ _ _, vs, d, h => by cases h
 | .bcells _ _ _ _, vs, d, h => by cases h
 | .bos _ _ _ _, vs, d, h => by cases h
theorem zkf {nz : Bool} {gen : Nat} {frz : Bool} {T : Ty} {l : Sh} {m : KMem} {d : (Sh.bos gen frz T l).den} (h : decM nz (.bos gen frz T l) m = some d) :
  ∃ (xs : List (den T)) (hs : Holes) (p : l.den), m = [some ⟨gen, frz, .os T xs hs⟩] ∧ decS false l (holesV hs) = some p ∧ d = P2.mk false l.un xs p := by
 rw [zpu] at h
 split at h <;> try contradiction
 obtain ⟨h1, h2⟩ := cds.1 h
 simp only [yb, zx] at h1
 obtain ⟨rfl, h1⟩ := h1
 obtain rfl := zan h1
 split at h2 <;> try contradiction
 rename_i ys hy
 obtain ⟨e, h3⟩ := zN hy
 subst e
 simp only at h3
 subst h3
 split at h2 <;> try contradiction
 rename_i p hp
 exact ⟨_, _, p, rfl, hp, (ya h2).symm⟩
theorem zfF {nz : Bool} : ∀ {s : Sh} {m : KMem} {d : s.den}, decM nz s m = some d → m = encM s d
 | .nil, m, d, h => by
  rw [zpR] at h
  split at h <;> first | contradiction | cases h
  rfl
 | .cons a b, m, d, h => by
  rw [zoE] at h
  split at h <;> try contradiction
  split at h <;> try contradiction
  rename_i x hx
  split at h <;> try contradiction
  rename_i y hy
  have hp := ya h
  exact congr2 (fun (u v : KMem) => u ++ v) ((zfF hx).trans (congrArg (encM a) (P2.fst_mk' hp).symm)) ((zfF hy).trans (congrArg (encM b) (P2.snd_mk' hp).symm))
 | .bnone, m, d, h => by
  rw [zmC] at h
  split at h <;> first | contradiction | cases h
  rfl
 | .bts gen frz β ag T, m, d, h => by
  rw [zpq] at h
  split at h <;> try contradiction
  obtain ⟨h1, h2⟩ := cds.1 h
  simp only [yb, zx] at h1
  obtain ⟨⟨⟨rfl, h1⟩, h3⟩, h4⟩ := h1
  obtain rfl := zan h1
  obtain rfl := zan h3
  obtain rfl := zan h4
  obtain ⟨e, h2⟩ := zN h2
  subst e
  simp only at h2
  subst h2; rfl
 | .bcells gen frz e l, m, d, h => by
  obtain ⟨cs, hm, h2⟩ := zhk h
  exact hm.trans (congrArg (fun u => ([some ⟨gen, frz, .cells e u⟩] : KMem)) (zbt (s := l) h2))
 | .bos gen frz T l, m, d, h => by
  obtain ⟨xs, hs, p, rfl, hp, rfl⟩ := zkf h
  have e1 := zbt (s := l) hp
  show _ = ([some ⟨gen, frz, .os T (P2.fst (A := List (Go.Ab.den T)) [] false l.un (P2.mk false l.un xs p)) (holesOf (encS l (P2.snd l.dflt false l.un (P2.mk false l.un xs p))))⟩] : KMem)
  rw [zpT, zql, ← e1, zjT]
 | .int _, m, d, h | .bool, m, d, h | .str, m, d, h | .nilS, m, d, h | .nilP, m, d, h | .undef, m, d, h | .sl _ _ _, m, d, h | .el _ _ _ _, m, d, h | .ptr _ _ _ _, m, d, h
 | .ptrI _ _ _, m, d, h | .ms _ _, m, d, h | .msw _ _, m, d, h | .fn _ _ _, m, d, h | .agg _, m, d, h | .tup _, m, d, h => by cases h
end Go.Ab
