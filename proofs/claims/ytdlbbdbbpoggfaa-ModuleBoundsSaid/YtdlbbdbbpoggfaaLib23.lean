import Derived.Test.YtdlbbdbbpoggfaaLib22
set_option linter.unusedVariables false
set_option linter.unusedSectionVars false
set_option linter.unusedSimpArgs false
namespace Go.Ab
variable [b4]
theorem cW {a b : Nat} : f7 a b = true ↔ a = b := nb
theorem P2.fst_mk' {a b : Sh} {x : a.den} {y : b.den} {p : P2 a.un b.un a.den b.den} (h : P2.mk a.un b.un x y = p) : P2.fst a.dflt a.un b.un p = x := by subst h; exact Go.Ab.fst_mk x y
theorem P2.snd_mk' {a b : Sh} {x : a.den} {y : b.den} {p : P2 a.un b.un a.den b.den} (h : P2.mk a.un b.un x y = p) : P2.snd b.dflt a.un b.un p = y := by subst h; exact Go.Ab.snd_mk x y
section
variable {nz : Bool} {vs : List KV} {m : aD}
theorem Jm {k : IntKind} : eJ nz (.int k) vs = (match vs with | [.lit (.int H x)] => bif gK k H then some x else none | _ => none) := rfl
theorem Gd : eJ nz .bool vs = (match vs with | [.lit (.bool x)] => some x | _ => none) := rfl
theorem J2 : eJ nz .str vs = (match vs with | [.lit (.string x)] => some x | _ => none) := rfl
theorem Gi : eJ nz .nilS vs = (match vs with | [.lit (.slice none 0 0)] => some () | _ => none) := rfl
theorem GL : eJ nz .nilP vs = (match vs with | [.lit (.pointer none)] => some () | _ => none) := rfl
theorem Dx : eJ nz .undef vs = (match vs with | [.lit (.tuple a)] => (match a.toList with | [] => some () | _ => none) | _ => none) := rfl
theorem Lt {β ag : Bool} {T : Ty} : eJ nz (.sl β ag T) vs = (match vs with
  | [.tsl β' H I xs] => bif (eG β β' || (nz && β)) && eG ag H then o5 I T xs else none
  | [.lit (.slice none 0 0)] => bif nz then some [] else none
  | _ => none) := rfl
theorem L3 {β ag : Bool} {T : Ty} {c : Nat} : eJ nz (.el β ag T c) vs = (match vs with
  | [.el β' H J x I] => bif (eG β β' || (nz && β)) && eG ag H && f7 c I then GA (F := Go.Ab.den) (Ty.beq J T) rfl x else none
  | _ => none) := rfl
theorem I4 {b g i c : Nat} : eJ nz (.ptr b g i c) vs = (match vs with | [.ptr J g' I H] => bif f7 b J && f7 g g' && f7 i I && f7 c H then some () else none | _ => none) := rfl
theorem GN {b g c : Nat} : eJ nz (.ptrI b g c) vs = (match vs with | [.ptr I g' i H] => bif f7 b I && f7 g g' && f7 c H then some i else none | _ => none) := rfl
theorem L6 {b g : Nat} : eJ nz (.ms b g) vs = (match vs with | [.ms H g' o n] => bif f7 b H && f7 g g' then some (o, n) else none | _ => none) := rfl
theorem IE {b g : Nat} : eJ nz (.msw b g) vs = (match vs with | [.msw H g'] => bif f7 b H && f7 g g' then some () else none | _ => none) := rfl
theorem Lp {f : FuncId} {K J : Sh} : eJ nz (.fn f K J) vs = (match vs with
  | [.fn (.func M) H I] => bif f7 f M then
    (match eJ nz K H with
    | some x => (match eJ nz J I with | some y => some (P2.mk _ _ x y) | none => none)
    | none => none) else none
  | _ => none) := rfl
theorem PD {l : Sh} : eJ nz (.agg l) vs = (match vs with | [.agg cs] => eJ nz l cs | _ => none) := rfl
theorem PO {l : Sh} : eJ nz (.tup l) vs = (match vs with | [.tup cs] => eJ nz l cs | _ => none) := rfl
theorem IK : eJ nz .nil vs = (match vs with | [] => some () | _ => none) := rfl
theorem Gg {a b : Sh} : eJ nz (.cons a b) vs = (match vs with
  | v :: r =>
   (match eJ nz a [v] with
   | some x => (match eJ nz b r with | some y => some (P2.mk _ _ x y) | none => none)
   | none => none)
  | [] => none) := rfl
theorem NO : Ap nz .nil m = (match m with | [] => some () | _ => none) := rfl
theorem Mf {a b : Sh} : Ap nz (.cons a b) m = (match m with
  | x :: r =>
   (match Ap nz a [x] with
   | some x => (match Ap nz b r with | some y => some (P2.mk _ _ x y) | none => none)
   | none => none)
  | [] => none) := rfl
theorem Ki : Ap nz .bnone m = (match m with | [none] => some () | _ => none) := rfl
theorem N4 {gen : Nat} {frz β ag : Bool} {T : Ty} : Ap nz (.bts gen frz β ag T) m = (match m with
  | [some ⟨H, I, .ts β' J K xs⟩] => bif f7 gen H && eG frz I && eG β β' && eG ag J then o5 K T xs else none
  | _ => none) := rfl
theorem O1 {gen : Nat} {frz : Bool} {e : Nat} {l : Sh} : Ap nz (.bcells gen frz e l) m = (match m with
  | [some ⟨H, I, .cells J cs⟩] => bif f7 gen H && eG frz I && f7 e J then eJ false l cs else none
  | _ => none) := rfl
theorem NI {gen : Nat} {frz : Bool} {T : Ty} {l : Sh} : Ap nz (.bos gen frz T l) m = (match m with
  | [some ⟨H, I, .os K xs hs⟩] => bif f7 gen H && eG frz I then
    (match o5 K T xs with
    | some J => (match eJ false l (jS hs) with | some p => some (P2.mk false l.un J p) | none => none)
    | none => none) else none
  | _ => none) := rfl
end
theorem GE : ∀ hs : c5, iJ (jS hs) = hs
 | [] => rfl
 | (i, c, v) :: hs => by
  show (i, c, v) :: iJ (jS hs) = _
  rw [GE hs]
theorem OA {A : Type} {ub : Bool} {B : Type} (d x : A) (y : B) : P2.fst d false ub (P2.mk false ub x y) = x := by cases ub <;> rfl
theorem OF {A : Type} {l : Sh} (x : A) (y : l.den) : P2.snd l.dflt false l.un (P2.mk false l.un x y) = y := by
 rcases P2.snd_mk (db := l.dflt) (ua := false) (ub := l.un) x y with h | h
 ·exact nW h _ _
 ·exact h
theorem Ku {α β γ : Type} (f : α → β → γ) {a H : α} {b I : β} (J : a = H) (K : b = I) : f a b = f H I := by rw [J, K]
theorem Ak {nz : Bool} {l : Sh} {vs : List KV} {d : l.den} (h : eJ nz (.agg l) vs = some d) : ∃ cs, vs = [.agg cs] ∧ eJ nz l cs = some d := by
 have h : @Eq (Option l.den) (match (generalizing := false) vs with | [.agg cs] => eJ nz l cs | _ => none) (some d) := h
 split at h
 ·exact ⟨_, rfl, h⟩
 ·cases h
theorem Ae {nz : Bool} {l : Sh} {vs : List KV} {d : l.den} (h : eJ nz (.tup l) vs = some d) : ∃ cs, vs = [.tup cs] ∧ eJ nz l cs = some d := by
 have h : @Eq (Option l.den) (match (generalizing := false) vs with | [.tup cs] => eJ nz l cs | _ => none) (some d) := h
 split at h
 ·exact ⟨_, rfl, h⟩
 ·cases h
theorem CX {nz : Bool} {gen : Nat} {frz : Bool} {e : Nat} {l : Sh} {m : aD} {d : l.den} (h : Ap nz (.bcells gen frz e l) m = some d) : ∃ cs, m = [some ⟨gen, frz, .cells e cs⟩] ∧ eJ false l cs = some d := by
 have h : @Eq (Option l.den) (match (generalizing := false) m with
  | [some ⟨H, I, .cells K cs⟩] => bif f7 gen H && eG frz I && f7 e K then eJ false l cs else none
  | _ => none) (some d) := h
 split at h
 ·obtain ⟨J, M⟩ := bR.1 h
  simp only [yb, cW] at J
  obtain ⟨⟨rfl, J⟩, rfl⟩ := J
  obtain rfl := fX J
  exact ⟨_, rfl, M⟩
 ·cases h
theorem lM : ∀ {s : Sh} {vs : List KV} {d : s.den}, eJ false s vs = some d → vs = c9 s d
 | .int k, vs, d, h => by
  rw [Jm] at h
  split at h <;> try contradiction
  obtain ⟨H, I⟩ := bR.1 h
  obtain rfl := rW.1 H
  cases I; rfl
 | .bool, vs, d, h => by
  rw [Gd] at h
  split at h <;> first | contradiction | cases h
  rfl
 | .str, vs, d, h => by
  rw [J2] at h
  split at h <;> first | contradiction | cases h
  rfl
 | .nilS, vs, d, h => by
  rw [Gi] at h
  split at h <;> first | contradiction | cases h
  rfl
 | .nilP, vs, d, h => by
  rw [GL] at h
  split at h <;> first | contradiction | cases h
  rfl
 | .undef, vs, d, h => by
  rw [Dx] at h
  split at h <;> try contradiction
  rename_i a
  split at h <;> try contradiction
  rename_i O
  obtain ⟨l⟩ := a
  simp only at O
  subst O; rfl
 | .sl β ag T, vs, d, h => by
  rw [Lt] at h
  split at h <;> try contradiction
  ·rename_i β' K W xs
   obtain ⟨H, I⟩ := bR.1 h
   simp only [Bool.false_and, Bool.or_false, yb] at H
   obtain rfl := fX H.1
   obtain rfl := fX H.2
   obtain ⟨e, I⟩ := dW I
   subst e
   simp only at I
   subst I; rfl
 | .el β ag T c, vs, d, h => by
  rw [L3] at h
  split at h <;> try contradiction
  rename_i β' K W x c'
  obtain ⟨H, I⟩ := bR.1 h
  simp only [Bool.false_and, Bool.or_false, yb] at H
  obtain rfl := fX H.1.1
  obtain rfl := fX H.1.2
  obtain rfl := cW.1 H.2
  obtain ⟨e, I⟩ := mN I
  subst e
  simp only at I
  subst I; rfl
 | .ptr b g i c, vs, d, h => by
  rw [I4] at h
  split at h <;> try contradiction
  obtain ⟨H, I⟩ := bR.1 h
  simp only [yb, cW] at H
  obtain ⟨⟨⟨rfl, rfl⟩, rfl⟩, rfl⟩ := H
  rfl
 | .ptrI b g c, vs, d, h => by
  rw [GN] at h
  split at h <;> try contradiction
  obtain ⟨H, I⟩ := bR.1 h
  simp only [yb, cW] at H
  obtain ⟨⟨rfl, rfl⟩, rfl⟩ := H
  cases I
  rfl
 | .ms b g, vs, d, h => by
  rw [L6] at h
  split at h <;> try contradiction
  obtain ⟨H, I⟩ := bR.1 h
  simp only [yb, cW] at H
  obtain ⟨rfl, rfl⟩ := H
  cases I
  rfl
 | .msw b g, vs, d, h => by
  rw [IE] at h
  split at h <;> try contradiction
  obtain ⟨H, I⟩ := bR.1 h
  simp only [yb, cW] at H
  obtain ⟨rfl, rfl⟩ := H
  rfl
 | .fn f V U, vs, d, h => by
  rw [Lp] at h
  split at h <;> try contradiction
  obtain ⟨H, I⟩ := bR.1 h
  obtain rfl := cW.1 H
  split at I <;> try contradiction
  rename_i x N
  split at I <;> try contradiction
  rename_i y M
  have J := ya I
  exact Ku (fun u v => [KV.fn (.func f) u v]) ((lM N).trans (congrArg (c9 V) (P2.fst_mk' J).symm)) ((lM M).trans (congrArg (c9 U) (P2.snd_mk' J).symm))
 | .agg l, vs, d, h => by
  obtain ⟨cs, rfl, h⟩ := Ak h
  exact congrArg (fun u => [KV.agg u]) (lM (s := l) h)
 | .tup l, vs, d, h => by
  obtain ⟨cs, rfl, h⟩ := Ae h
  exact congrArg (fun u => [KV.tup u]) (lM (s := l) h)
 | .nil, vs, d, h => by
  rw [IK] at h
  split at h <;> first | contradiction | cases h
  rfl
 | .cons a b, vs, d, h => by
  rw [Gg] at h
  split at h <;> try contradiction
  split at h <;> try contradiction
  rename_i x N
  split at h <;> try contradiction
  rename_i y M
  have J := ya h
  exact Ku (fun (u v : List KV) => u ++ v) ((lM N).trans (congrArg (c9 a) (P2.fst_mk' J).symm)) ((lM M).trans (congrArg (c9 b) (P2.snd_mk' J).symm))
 | .bnone, vs, d, h => by cases h
 | .bts _ _ _ _ _, vs, d, h => by cases h
 | .bcells _ _ _ _, vs, d, h => by cases h
 | .bos _ _ _ _, vs, d, h => by cases h
theorem nP : ∀ {s : Sh} {vs : List KV} {d : s.den}, eJ true s vs = some d → lA s (KV.downs vs) d
 | .int k, vs, d, h => by
  rw [Jm] at h
  split at h <;> try contradiction
  obtain ⟨H, I⟩ := bR.1 h
  obtain rfl := rW.1 H
  cases I; rfl
 | .bool, vs, d, h => by
  rw [Gd] at h
  split at h <;> first | contradiction | cases h
  rfl
 | .str, vs, d, h => by
  rw [J2] at h
  split at h <;> first | contradiction | cases h
  rfl
 | .nilS, vs, d, h => by
  rw [Gi] at h
  split at h <;> first | contradiction | cases h
  rfl
 | .nilP, vs, d, h => by
  rw [GL] at h
  split at h <;> first | contradiction | cases h
  rfl
 | .undef, vs, d, h => by
  rw [Dx] at h
  split at h <;> try contradiction
  rename_i a
  split at h <;> try contradiction
  rename_i W
  obtain ⟨l⟩ := a
  simp only at W
  subst W; rfl
 | .sl β ag T, vs, d, h => by
  rw [Lt] at h
  split at h <;> try contradiction
  ·rename_i β' M Y xs
   obtain ⟨H, I⟩ := bR.1 h
   simp only [yl3, yb, yy1] at H
   obtain rfl := fX H.2
   obtain ⟨e, I⟩ := dW I
   subst e
   simp only at I
   subst I
   refine .inl ⟨β', fun K => ?_, rfl⟩
   rcases H.1 with h | h
   ·rw [fX h]; exact K
   ·exact h
  ·exact .inr ⟨rfl, (ya h).symm⟩
 | .el β ag T c, vs, d, h => by
  rw [L3] at h
  split at h <;> try contradiction
  rename_i β' M Y x c'
  obtain ⟨H, I⟩ := bR.1 h
  simp only [yl3, yb, yy1] at H
  obtain rfl := fX H.1.2
  obtain rfl := cW.1 H.2
  obtain ⟨e, I⟩ := mN I
  subst e
  simp only at I
  subst I
  refine ⟨β', fun K => ?_, rfl⟩
  rcases H.1.1 with h | h
  ·rw [fX h]; exact K
  ·exact h
 | .ptr b g i c, vs, d, h => by
  rw [I4] at h
  split at h <;> try contradiction
  obtain ⟨H, I⟩ := bR.1 h
  simp only [yb, cW] at H
  obtain ⟨⟨⟨rfl, rfl⟩, rfl⟩, rfl⟩ := H
  rfl
 | .ptrI b g c, vs, d, h => by
  rw [GN] at h
  split at h <;> try contradiction
  obtain ⟨H, I⟩ := bR.1 h
  simp only [yb, cW] at H
  obtain ⟨⟨rfl, rfl⟩, rfl⟩ := H
  cases I
  rfl
 | .ms b g, vs, d, h => by
  rw [L6] at h
  split at h <;> try contradiction
  obtain ⟨H, I⟩ := bR.1 h
  simp only [yb, cW] at H
  obtain ⟨rfl, rfl⟩ := H
  cases I
  rfl
 | .msw b g, vs, d, h => by
  rw [IE] at h
  split at h <;> try contradiction
  obtain ⟨H, I⟩ := bR.1 h
  simp only [yb, cW] at H
  obtain ⟨rfl, rfl⟩ := H
  rfl
 | .fn f fi ca, vs, d, h => by
  rw [Lp] at h
  split at h <;> try contradiction
  obtain ⟨H, I⟩ := bR.1 h
  obtain rfl := cW.1 H
  split at I <;> try contradiction
  rename_i x V
  split at I <;> try contradiction
  rename_i y U
  have J := ya I
  have N := P2.fst_mk' J
  have O := P2.snd_mk' J
  exact ⟨_, _, rfl, N ▸ nP V, O ▸ nP U⟩
 | .agg l, vs, d, h => by
  obtain ⟨cs, rfl, h⟩ := Ak h
  exact ⟨_, rfl, nP (s := l) h⟩
 | .tup l, vs, d, h => by
  obtain ⟨cs, rfl, h⟩ := Ae h
  exact ⟨_, rfl, nP (s := l) h⟩
 | .nil, vs, d, h => by
  rw [IK] at h
  split at h <;> first | contradiction | cases h
  rfl
 | .cons a b, vs, d, h => by
  rw [Gg] at h
  split at h <;> try contradiction
  split at h <;> try contradiction
  rename_i x V
  split at h <;> try contradiction
  rename_i y U
  have J := ya h
  have N := P2.fst_mk' J
  have O := P2.snd_mk' J
  exact ⟨_, _, rfl, N ▸ nP V, O ▸ nP U⟩
 | .bnone, vs, d, h => by cases h
 | .bts _ _ _ _ _, vs, d, h => by cases h
 | .bcells _ _ _ _, vs, d, h => by cases h
 | .bos _ _ _ _, vs, d, h => by cases h
theorem Hk {nz : Bool} {gen : Nat} {frz : Bool} {T : Ty} {l : Sh} {m : aD} {d : (Sh.bos gen frz T l).den} (h : Ap nz (.bos gen frz T l) m = some d) :
  ∃ (xs : List (den T)) (hs : c5) (p : l.den), m = [some ⟨gen, frz, .os T xs hs⟩] ∧ eJ false l (jS hs) = some p ∧ d = P2.mk false l.un xs p := by
 rw [NI] at h
 split at h <;> try contradiction
 obtain ⟨H, I⟩ := bR.1 h
 simp only [yb, cW] at H
 obtain ⟨rfl, H⟩ := H
 obtain rfl := fX H
 split at I <;> try contradiction
 rename_i ys M
 obtain ⟨e, J⟩ := dW M
 subst e
 simp only at J
 subst J
 split at I <;> try contradiction
 rename_i p K
 exact ⟨_, _, p, rfl, K, (ya I).symm⟩
theorem At {nz : Bool} : ∀ {s : Sh} {m : aD} {d : s.den}, Ap nz s m = some d → m = e8 s d
 | .nil, m, d, h => by
  rw [NO] at h
  split at h <;> first | contradiction | cases h
  rfl
 | .cons a b, m, d, h => by
  rw [Mf] at h
  split at h <;> try contradiction
  split at h <;> try contradiction
  rename_i x U
  split at h <;> try contradiction
  rename_i y O
  have J := ya h
  exact Ku (fun (u v : aD) => u ++ v) ((At U).trans (congrArg (e8 a) (P2.fst_mk' J).symm)) ((At O).trans (congrArg (e8 b) (P2.snd_mk' J).symm))
 | .bnone, m, d, h => by
  rw [Ki] at h
  split at h <;> first | contradiction | cases h
  rfl
 | .bts gen frz β ag T, m, d, h => by
  rw [N4] at h
  split at h <;> try contradiction
  obtain ⟨I, H⟩ := bR.1 h
  simp only [yb, cW] at I
  obtain ⟨⟨⟨rfl, I⟩, M⟩, K⟩ := I
  obtain rfl := fX I
  obtain rfl := fX M
  obtain rfl := fX K
  obtain ⟨e, H⟩ := dW H
  subst e
  simp only at H
  subst H; rfl
 | .bcells gen frz e l, m, d, h => by
  obtain ⟨cs, hm, H⟩ := CX h
  exact hm.trans (congrArg (fun u => ([some ⟨gen, frz, .cells e u⟩] : aD)) (lM (s := l) H))
 | .bos gen frz T l, m, d, h => by
  obtain ⟨xs, hs, p, rfl, J, rfl⟩ := Hk h
  have N := lM (s := l) J
  show _ = ([some ⟨gen, frz, .os T (P2.fst (A := List (Go.Ab.den T)) [] false l.un (P2.mk false l.un xs p)) (iJ (c9 l (P2.snd l.dflt false l.un (P2.mk false l.un xs p))))⟩] : aD)
  rw [OA, OF, ← N, GE]
 | .int _, m, d, h | .bool, m, d, h | .str, m, d, h | .nilS, m, d, h | .nilP, m, d, h | .undef, m, d, h | .sl _ _ _, m, d, h | .el _ _ _ _, m, d, h | .ptr _ _ _ _, m, d, h
 | .ptrI _ _ _, m, d, h | .ms _ _, m, d, h | .msw _ _, m, d, h | .fn _ _ _, m, d, h | .agg _, m, d, h | .tup _, m, d, h => by cases h
end Go.Ab
