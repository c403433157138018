import Derived.Test.YtdlbbdbbpoggfaaLib22
set_option linter.unusedVariables false
set_option linter.unusedSectionVars false
set_option linter.unusedSimpArgs false
namespace Go.Ab
variable [b4]
theorem cV {a b : Nat} : f6 a b = true ↔ a = b := nb
theorem P2.fst_mk' {a b : Sh} {x : a.den} {y : b.den} {p : P2 a.un b.un a.den b.den} (h : P2.mk a.un b.un x y = p) : P2.fst a.dflt a.un b.un p = x := by subst h; exact Go.Ab.fst_mk x y
theorem P2.snd_mk' {a b : Sh} {x : a.den} {y : b.den} {p : P2 a.un b.un a.den b.den} (h : P2.mk a.un b.un x y = p) : P2.snd b.dflt a.un b.un p = y := by subst h; exact Go.Ab.snd_mk x y
section
variable {nz : Bool} {vs : List KV} {m : aD}
theorem JN {k : IntKind} : eJ nz (.int k) vs = (match vs with | [.lit (.int H x)] => bif gK k H then some x else none | _ => none) := rfl
theorem GR : eJ nz .bool vs = (match vs with | [.lit (.bool x)] => some x | _ => none) := rfl
theorem IR : eJ nz .str vs = (match vs with | [.lit (.string x)] => some x | _ => none) := rfl
theorem GV : eJ nz .nilS vs = (match vs with | [.lit (.slice none 0 0)] => some () | _ => none) := rfl
theorem Gk : eJ nz .nilP vs = (match vs with | [.lit (.pointer none)] => some () | _ => none) := rfl
theorem FU : eJ nz .undef vs = (match vs with | [.lit (.tuple a)] => (match a.toList with | [] => some () | _ => none) | _ => none) := rfl
theorem Lx {β ag : Bool} {T : Ty} : eJ nz (.sl β ag T) vs = (match vs with
  | [.tsl β' H I xs] => bif (eE β β' || (nz && β)) && eE ag H then o6 I T xs else none
  | [.lit (.slice none 0 0)] => bif nz then some [] else none
  | _ => none) := rfl
theorem L3 {β ag : Bool} {T : Ty} {c : Nat} : eJ nz (.el β ag T c) vs = (match vs with
  | [.el β' H J x I] => bif (eE β β' || (nz && β)) && eE ag H && f6 c I then Gy (F := Go.Ab.den) (Ty.beq J T) rfl x else none
  | _ => none) := rfl
theorem I5 {b g i c : Nat} : eJ nz (.ptr b g i c) vs = (match vs with | [.ptr I g' J H] => bif f6 b I && f6 g g' && f6 i J && f6 c H then some () else none | _ => none) := rfl
theorem Gt {b g c : Nat} : eJ nz (.ptrI b g c) vs = (match vs with | [.ptr I g' i H] => bif f6 b I && f6 g g' && f6 c H then some i else none | _ => none) := rfl
theorem LW {b g : Nat} : eJ nz (.ms b g) vs = (match vs with | [.ms H g' o n] => bif f6 b H && f6 g g' then some (o, n) else none | _ => none) := rfl
theorem Je {b g : Nat} : eJ nz (.msw b g) vs = (match vs with | [.msw H g'] => bif f6 b H && f6 g g' then some () else none | _ => none) := rfl
theorem Lu {f : FuncId} {J K : Sh} : eJ nz (.fn f J K) vs = (match vs with
  | [.fn (.func M) I H] => bif f6 f M then
    (match eJ nz J I with
    | some x => (match eJ nz K H with | some y => some (P2.mk _ _ x y) | none => none)
    | none => none) else none
  | _ => none) := rfl
theorem PE {l : Sh} : eJ nz (.agg l) vs = (match vs with | [.agg cs] => eJ nz l cs | _ => none) := rfl
theorem PK {l : Sh} : eJ nz (.tup l) vs = (match vs with | [.tup cs] => eJ nz l cs | _ => none) := rfl
theorem JA : eJ nz .nil vs = (match vs with | [] => some () | _ => none) := rfl
theorem Gu {a b : Sh} : eJ nz (.cons a b) vs = (match vs with
  | v :: r =>
   (match eJ nz a [v] with
   | some x => (match eJ nz b r with | some y => some (P2.mk _ _ x y) | none => none)
   | none => none)
  | [] => none) := rfl
theorem Ng : Al nz .nil m = (match m with | [] => some () | _ => none) := rfl
theorem Mr {a b : Sh} : Al nz (.cons a b) m = (match m with
  | x :: r =>
   (match Al nz a [x] with
   | some x => (match Al nz b r with | some y => some (P2.mk _ _ x y) | none => none)
   | none => none)
  | [] => none) := rfl
theorem KM : Al nz .bnone m = (match m with | [none] => some () | _ => none) := rfl
theorem ND {gen : Nat} {frz β ag : Bool} {T : Ty} : Al nz (.bts gen frz β ag T) m = (match m with
  | [some ⟨H, I, .ts β' J K xs⟩] => bif f6 gen H && eE frz I && eE β β' && eE ag J then o6 K T xs else none
  | _ => none) := rfl
theorem O2 {gen : Nat} {frz : Bool} {e : Nat} {l : Sh} : Al nz (.bcells gen frz e l) m = (match m with
  | [some ⟨H, I, .cells J cs⟩] => bif f6 gen H && eE frz I && f6 e J then eJ false l cs else none
  | _ => none) := rfl
theorem NJ {gen : Nat} {frz : Bool} {T : Ty} {l : Sh} : Al nz (.bos gen frz T l) m = (match m with
  | [some ⟨H, I, .os K xs hs⟩] => bif f6 gen H && eE frz I then
    (match o6 K T xs with
    | some J => (match eJ false l (j6 hs) with | some p => some (P2.mk false l.un J p) | none => none)
    | none => none) else none
  | _ => none) := rfl
end
theorem GA : ∀ hs : cY, iI (j6 hs) = hs
 | [] => rfl
 | (i, c, v) :: hs => by
  show (i, c, v) :: iI (j6 hs) = _
  rw [GA hs]
theorem OP {A : Type} {ub : Bool} {B : Type} (d x : A) (y : B) : P2.fst d false ub (P2.mk false ub x y) = x := by cases ub <;> rfl
theorem O0 {A : Type} {l : Sh} (x : A) (y : l.den) : P2.snd l.dflt false l.un (P2.mk false l.un x y) = y := by
 rcases P2.snd_mk (db := l.dflt) (ua := false) (ub := l.un) x y with h | h
 ·exact nV h _ _
 ·exact h
theorem Kr {α β γ : Type} (f : α → β → γ) {a I : α} {b H : β} (J : a = I) (K : b = H) : f a b = f I H := by rw [J, K]
theorem Ap {nz : Bool} {l : Sh} {vs : List KV} {d : l.den} (h : eJ nz (.agg l) vs = some d) : ∃ cs, vs = [.agg cs] ∧ eJ nz l cs = some d := by
 have h : @Eq (Option l.den) (match (generalizing := false) vs with | [.agg cs] => eJ nz l cs | _ => none) (some d) := h
 split at h
 ·exact ⟨_, rfl, h⟩
 ·cases h
theorem AY {nz : Bool} {l : Sh} {vs : List KV} {d : l.den} (h : eJ nz (.tup l) vs = some d) : ∃ cs, vs = [.tup cs] ∧ eJ nz l cs = some d := by
 have h : @Eq (Option l.den) (match (generalizing := false) vs with | [.tup cs] => eJ nz l cs | _ => none) (some d) := h
 split at h
 ·exact ⟨_, rfl, h⟩
 ·cases h
theorem CW {nz : Bool} {gen : Nat} {frz : Bool} {e : Nat} {l : Sh} {m : aD} {d : l.den} (h : Al nz (.bcells gen frz e l) m = some d) : ∃ cs, m = [some ⟨gen, frz, .cells e cs⟩] ∧ eJ false l cs = some d := by
 have h : @Eq (Option l.den) (match (generalizing := false) m with
  | [some ⟨H, I, .cells M cs⟩] => bif f6 gen H && eE frz I && f6 e M then eJ false l cs else none
  | _ => none) (some d) := h
 split at h
 ·obtain ⟨J, K⟩ := bP.1 h
  simp only [yb, cV] at J
  obtain ⟨⟨rfl, J⟩, rfl⟩ := J
  obtain rfl := fW J
  exact ⟨_, rfl, K⟩
 ·cases h
theorem lL : ∀ {s : Sh} {vs : List KV} {d : s.den}, eJ false s vs = some d → vs = c9 s d
 | .int k, vs, d, h => by
  rw [JN] at h
  split at h <;> try contradiction
  obtain ⟨H, I⟩ := bP.1 h
  obtain rfl := rW.1 H
  cases I; rfl
 | .bool, vs, d, h => by
  rw [GR] at h
  split at h <;> first | contradiction | cases h
  rfl
 | .str, vs, d, h => by
  rw [IR] at h
  split at h <;> first | contradiction | cases h
  rfl
 | .nilS, vs, d, h => by
  rw [GV] at h
  split at h <;> first | contradiction | cases h
  rfl
 | .nilP, vs, d, h => by
  rw [Gk] at h
  split at h <;> first | contradiction | cases h
  rfl
 | .undef, vs, d, h => by
  rw [FU] at h
  split at h <;> try contradiction
  rename_i a
  split at h <;> try contradiction
  rename_i O
  obtain ⟨l⟩ := a
  simp only at O
  subst O; rfl
 | .sl β ag T, vs, d, h => by
  rw [Lx] at h
  split at h <;> try contradiction
  ·rename_i β' K W xs
   obtain ⟨H, I⟩ := bP.1 h
   simp only [Bool.false_and, Bool.or_false, yb] at H
   obtain rfl := fW H.1
   obtain rfl := fW H.2
   obtain ⟨e, I⟩ := dW I
   subst e
   simp only at I
   subst I; rfl
 | .el β ag T c, vs, d, h => by
  rw [L3] at h
  split at h <;> try contradiction
  rename_i β' K W x c'
  obtain ⟨H, I⟩ := bP.1 h
  simp only [Bool.false_and, Bool.or_false, yb] at H
  obtain rfl := fW H.1.1
  obtain rfl := fW H.1.2
  obtain rfl := cV.1 H.2
  obtain ⟨e, I⟩ := mD I
  subst e
  simp only at I
  subst I; rfl
 | .ptr b g i c, vs, d, h => by
  rw [I5] at h
  split at h <;> try contradiction
  obtain ⟨H, I⟩ := bP.1 h
  simp only [yb, cV] at H
  obtain ⟨⟨⟨rfl, rfl⟩, rfl⟩, rfl⟩ := H
  rfl
 | .ptrI b g c, vs, d, h => by
  rw [Gt] at h
  split at h <;> try contradiction
  obtain ⟨H, I⟩ := bP.1 h
  simp only [yb, cV] at H
  obtain ⟨⟨rfl, rfl⟩, rfl⟩ := H
  cases I
  rfl
 | .ms b g, vs, d, h => by
  rw [LW] at h
  split at h <;> try contradiction
  obtain ⟨H, I⟩ := bP.1 h
  simp only [yb, cV] at H
  obtain ⟨rfl, rfl⟩ := H
  cases I
  rfl
 | .msw b g, vs, d, h => by
  rw [Je] at h
  split at h <;> try contradiction
  obtain ⟨H, I⟩ := bP.1 h
  simp only [yb, cV] at H
  obtain ⟨rfl, rfl⟩ := H
  rfl
 | .fn f U V, vs, d, h => by
  rw [Lu] at h
  split at h <;> try contradiction
  obtain ⟨H, I⟩ := bP.1 h
  obtain rfl := cV.1 H
  split at I <;> try contradiction
  rename_i x N
  split at I <;> try contradiction
  rename_i y M
  have J := ya I
  exact Kr (fun u v => [KV.fn (.func f) u v]) ((lL N).trans (congrArg (c9 U) (P2.fst_mk' J).symm)) ((lL M).trans (congrArg (c9 V) (P2.snd_mk' J).symm))
 | .agg l, vs, d, h => by
  obtain ⟨cs, rfl, h⟩ := Ap h
  exact congrArg (fun u => [KV.agg u]) (lL (s := l) h)
 | .tup l, vs, d, h => by
  obtain ⟨cs, rfl, h⟩ := AY h
  exact congrArg (fun u => [KV.tup u]) (lL (s := l) h)
 | .nil, vs, d, h => by
  rw [JA] at h
  split at h <;> first | contradiction | cases h
  rfl
 | .cons a b, vs, d, h => by
  rw [Gu] at h
  split at h <;> try contradiction
  split at h <;> try contradiction
  rename_i x N
  split at h <;> try contradiction
  rename_i y M
  have J := ya h
  exact Kr (fun (u v : List KV) => u ++ v) ((lL N).trans (congrArg (c9 a) (P2.fst_mk' J).symm)) ((lL M).trans (congrArg (c9 b) (P2.snd_mk' J).symm))
 | .bnone, vs, d, h => by cases h
 | .bts _ _ _ _ _, vs, d, h => by cases h
 | .bcells _ _ _ _, vs, d, h => by cases h
 | .bos _ _ _ _, vs, d, h => by cases h
theorem nR : ∀ {s : Sh} {vs : List KV} {d : s.den}, eJ true s vs = some d → lC s (KV.downs vs) d
 | .int k, vs, d, h => by
  rw [JN] at h
  split at h <;> try contradiction
  obtain ⟨H, I⟩ := bP.1 h
  obtain rfl := rW.1 H
  cases I; rfl
 | .bool, vs, d, h => by
  rw [GR] at h
  split at h <;> first | contradiction | cases h
  rfl
 | .str, vs, d, h => by
  rw [IR] at h
  split at h <;> first | contradiction | cases h
  rfl
 | .nilS, vs, d, h => by
  rw [GV] at h
  split at h <;> first | contradiction | cases h
  rfl
 | .nilP, vs, d, h => by
  rw [Gk] at h
  split at h <;> first | contradiction | cases h
  rfl
 | .undef, vs, d, h => by
  rw [FU] at h
  split at h <;> try contradiction
  rename_i a
  split at h <;> try contradiction
  rename_i W
  obtain ⟨l⟩ := a
  simp only at W
  subst W; rfl
 | .sl β ag T, vs, d, h => by
  rw [Lx] at h
  split at h <;> try contradiction
  ·rename_i β' M Y xs
   obtain ⟨H, I⟩ := bP.1 h
   simp only [yl3, yb, yy1] at H
   obtain rfl := fW H.2
   obtain ⟨e, I⟩ := dW I
   subst e
   simp only at I
   subst I
   refine .inl ⟨β', fun K => ?_, rfl⟩
   rcases H.1 with h | h
   ·rw [fW h]; exact K
   ·exact h
  ·exact .inr ⟨rfl, (ya h).symm⟩
 | .el β ag T c, vs, d, h => by
  rw [L3] at h
  split at h <;> try contradiction
  rename_i β' M Y x c'
  obtain ⟨H, I⟩ := bP.1 h
  simp only [yl3, yb, yy1] at H
  obtain rfl := fW H.1.2
  obtain rfl := cV.1 H.2
  obtain ⟨e, I⟩ := mD I
  subst e
  simp only at I
  subst I
  refine ⟨β', fun K => ?_, rfl⟩
  rcases H.1.1 with h | h
  ·rw [fW h]; exact K
  ·exact h
 | .ptr b g i c, vs, d, h => by
  rw [I5] at h
  split at h <;> try contradiction
  obtain ⟨H, I⟩ := bP.1 h
  simp only [yb, cV] at H
  obtain ⟨⟨⟨rfl, rfl⟩, rfl⟩, rfl⟩ := H
  rfl
 | .ptrI b g c, vs, d, h => by
  rw [Gt] at h
  split at h <;> try contradiction
  obtain ⟨H, I⟩ := bP.1 h
  simp only [yb, cV] at H
  obtain ⟨⟨rfl, rfl⟩, rfl⟩ := H
  cases I
  rfl
 | .ms b g, vs, d, h => by
  rw [LW] at h
  split at h <;> try contradiction
  obtain ⟨H, I⟩ := bP.1 h
  simp only [yb, cV] at H
  obtain ⟨rfl, rfl⟩ := H
  cases I
  rfl
 | .msw b g, vs, d, h => by
  rw [Je] at h
  split at h <;> try contradiction
  obtain ⟨H, I⟩ := bP.1 h
  simp only [yb, cV] at H
  obtain ⟨rfl, rfl⟩ := H
  rfl
 | .fn f fi ca, vs, d, h => by
  rw [Lu] at h
  split at h <;> try contradiction
  obtain ⟨H, I⟩ := bP.1 h
  obtain rfl := cV.1 H
  split at I <;> try contradiction
  rename_i x U
  split at I <;> try contradiction
  rename_i y N
  have J := ya I
  have V := P2.fst_mk' J
  have O := P2.snd_mk' J
  exact ⟨_, _, rfl, V ▸ nR U, O ▸ nR N⟩
 | .agg l, vs, d, h => by
  obtain ⟨cs, rfl, h⟩ := Ap h
  exact ⟨_, rfl, nR (s := l) h⟩
 | .tup l, vs, d, h => by
  obtain ⟨cs, rfl, h⟩ := AY h
  exact ⟨_, rfl, nR (s := l) h⟩
 | .nil, vs, d, h => by
  rw [JA] at h
  split at h <;> first | contradiction | cases h
  rfl
 | .cons a b, vs, d, h => by
  rw [Gu] at h
  split at h <;> try contradiction
  split at h <;> try contradiction
  rename_i x U
  split at h <;> try contradiction
  rename_i y N
  have J := ya h
  have V := P2.fst_mk' J
  have O := P2.snd_mk' J
  exact ⟨_, _, rfl, V ▸ nR U, O ▸ nR N⟩
 | .bnone, vs, d, h => by cases h
 | .bts _ _ _ _ _, vs, d, h => by cases h
 | .bcells _ _ _ _, vs, d, h => by cases h
 | .bos _ _ _ _, vs, d, h => by cases h
theorem Ik {nz : Bool} {gen : Nat} {frz : Bool} {T : Ty} {l : Sh} {m : aD} {d : (Sh.bos gen frz T l).den} (h : Al nz (.bos gen frz T l) m = some d) :
  ∃ (xs : List (den T)) (hs : cY) (p : l.den), m = [some ⟨gen, frz, .os T xs hs⟩] ∧ eJ false l (j6 hs) = some p ∧ d = P2.mk false l.un xs p := by
 rw [NJ] at h
 split at h <;> try contradiction
 obtain ⟨H, I⟩ := bP.1 h
 simp only [yb, cV] at H
 obtain ⟨rfl, H⟩ := H
 obtain rfl := fW H
 split at I <;> try contradiction
 rename_i ys M
 obtain ⟨e, J⟩ := dW M
 subst e
 simp only at J
 subst J
 split at I <;> try contradiction
 rename_i p K
 exact ⟨_, _, p, rfl, K, (ya I).symm⟩
theorem Ak {nz : Bool} : ∀ {s : Sh} {m : aD} {d : s.den}, Al nz s m = some d → m = e8 s d
 | .nil, m, d, h => by
  rw [Ng] at h
  split at h <;> first | contradiction | cases h
  rfl
 | .cons a b, m, d, h => by
  rw [Mr] at h
  split at h <;> try contradiction
  split at h <;> try contradiction
  rename_i x N
  split at h <;> try contradiction
  rename_i y M
  have J := ya h
  exact Kr (fun (u v : aD) => u ++ v) ((Ak N).trans (congrArg (e8 a) (P2.fst_mk' J).symm)) ((Ak M).trans (congrArg (e8 b) (P2.snd_mk' J).symm))
 | .bnone, m, d, h => by
  rw [KM] at h
  split at h <;> first | contradiction | cases h
  rfl
 | .bts gen frz β ag T, m, d, h => by
  rw [ND] at h
  split at h <;> try contradiction
  obtain ⟨I, H⟩ := bP.1 h
  simp only [yb, cV] at I
  obtain ⟨⟨⟨rfl, I⟩, O⟩, K⟩ := I
  obtain rfl := fW I
  obtain rfl := fW O
  obtain rfl := fW K
  obtain ⟨e, H⟩ := dW H
  subst e
  simp only at H
  subst H; rfl
 | .bcells gen frz e l, m, d, h => by
  obtain ⟨cs, hm, H⟩ := CW h
  exact hm.trans (congrArg (fun u => ([some ⟨gen, frz, .cells e u⟩] : aD)) (lL (s := l) H))
 | .bos gen frz T l, m, d, h => by
  obtain ⟨xs, hs, p, rfl, J, rfl⟩ := Ik h
  have U := lL (s := l) J
  show _ = ([some ⟨gen, frz, .os T (P2.fst (A := List (Go.Ab.den T)) [] false l.un (P2.mk false l.un xs p)) (iI (c9 l (P2.snd l.dflt false l.un (P2.mk false l.un xs p))))⟩] : aD)
  rw [OP, O0, ← U, GA]
 | .int _, m, d, h | .bool, m, d, h | .str, m, d, h | .nilS, m, d, h | .nilP, m, d, h | .undef, m, d, h | .sl _ _ _, m, d, h | .el _ _ _ _, m, d, h | .ptr _ _ _ _, m, d, h
 | .ptrI _ _ _, m, d, h | .ms _ _, m, d, h | .msw _ _, m, d, h | .fn _ _ _, m, d, h | .agg _, m, d, h | .tup _, m, d, h => by cases h
end Go.Ab
