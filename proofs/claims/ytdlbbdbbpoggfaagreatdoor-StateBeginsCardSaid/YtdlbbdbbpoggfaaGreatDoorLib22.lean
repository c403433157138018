import Derived.Test.YtdlbbdbbpoggfaaGreatDoorLib21
set_option linter.unusedVariables false
set_option linter.unusedSectionVars false
set_option linter.unusedSimpArgs false
namespace Go.Ab
variable [cD]
theorem cU {a b : Nat} : gS a b = true ↔ a = b := nb
theorem P2.fst_mk' {a b : Sh} {x : a.den} {y : b.den} {p : P2 a.un b.un a.den b.den} (h : P2.mk a.un b.un x y = p) : P2.fst a.dflt a.un b.un p = x := by subst h; exact Go.Ab.fst_mk x y
theorem P2.snd_mk' {a b : Sh} {x : a.den} {y : b.den} {p : P2 a.un b.un a.den b.den} (h : P2.mk a.un b.un x y = p) : P2.snd b.dflt a.un b.un p = y := by subst h; exact Go.Ab.snd_mk x y
section
variable {nz : Bool} {vs : List KV} {m : aR}
theorem H9 {k : IntKind} : eM nz (.int k) vs = (match vs with | [.lit (.int h x)] => bif gV k h then some x else none | _ => none) := rfl
theorem FE : eM nz .bool vs = (match vs with | [.lit (.bool x)] => some x | _ => none) := rfl
theorem Hy : eM nz .str vs = (match vs with | [.lit (.string x)] => some x | _ => none) := rfl
theorem Gi : eM nz .nilS vs = (match vs with | [.lit (.slice none 0 0)] => some () | _ => none) := rfl
theorem FO : eM nz .nilP vs = (match vs with | [.lit (.pointer none)] => some () | _ => none) := rfl
theorem CY : eM nz .undef vs = (match vs with | [.lit (.tuple a)] => (match a.toList with | [] => some () | _ => none) | _ => none) := rfl
theorem K0 {β ag : Bool} {T : Ty} : eM nz (.sl β ag T) vs = (match vs with
  | [.tsl β' h z xs] => bif (fT β β' || (nz && β)) && fT ag h then BL z T xs else none
  | [.lit (.slice none 0 0)] => bif nz then some [] else none
  | _ => none) := rfl
theorem Kx {β ag : Bool} {T : Ty} {c : Nat} : eM nz (.el β ag T c) vs = (match vs with
  | [.el β' h z x A] => bif (fT β β' || (nz && β)) && fT ag h && gS c A then Fw (F := Go.Ab.den) (Ty.beq z T) rfl x else none
  | _ => none) := rfl
theorem I2 {b g i c : Nat} : eM nz (.ptr b g i c) vs = (match vs with | [.ptr h g' z A] => bif gS b h && gS g g' && gS i z && gS c A then some () else none | _ => none) := rfl
theorem Gb {b g c : Nat} : eM nz (.ptrI b g c) vs = (match vs with | [.ptr h g' i z] => bif gS b h && gS g g' && gS c z then some i else none | _ => none) := rfl
theorem K8 {b g : Nat} : eM nz (.ms b g) vs = (match vs with | [.ms h g' o n] => bif gS b h && gS g g' then some (o, n) else none | _ => none) := rfl
theorem HX {b g : Nat} : eM nz (.msw b g) vs = (match vs with | [.msw h g'] => bif gS b h && gS g g' then some () else none | _ => none) := rfl
theorem KM {f : FuncId} {H A : Sh} : eM nz (.fn f H A) vs = (match vs with
  | [.fn (.func J) h z] => bif gS f J then
    (match eM nz H h with
    | some x => (match eM nz A z with | some y => some (P2.mk _ _ x y) | none => none)
    | none => none) else none
  | _ => none) := rfl
theorem P8 {l : Sh} : eM nz (.agg l) vs = (match vs with | [.agg cs] => eM nz l cs | _ => none) := rfl
theorem Qb {l : Sh} : eM nz (.tup l) vs = (match vs with | [.tup cs] => eM nz l cs | _ => none) := rfl
theorem Ie : eM nz .nil vs = (match vs with | [] => some () | _ => none) := rfl
theorem FV {a b : Sh} : eM nz (.cons a b) vs = (match vs with
  | v :: r =>
   (match eM nz a [v] with
   | some x => (match eM nz b r with | some y => some (P2.mk _ _ x y) | none => none)
   | none => none)
  | [] => none) := rfl
theorem Mx : B0 nz .nil m = (match m with | [] => some () | _ => none) := rfl
theorem LY {a b : Sh} : B0 nz (.cons a b) m = (match m with
  | x :: r =>
   (match B0 nz a [x] with
   | some x => (match B0 nz b r with | some y => some (P2.mk _ _ x y) | none => none)
   | none => none)
  | [] => none) := rfl
theorem JB : B0 nz .bnone m = (match m with | [none] => some () | _ => none) := rfl
theorem MK {gen : Nat} {frz β ag : Bool} {T : Ty} : B0 nz (.bts gen frz β ag T) m = (match m with
  | [some ⟨h, z, .ts β' A H xs⟩] => bif gS gen h && fT frz z && fT β β' && fT ag A then BL H T xs else none
  | _ => none) := rfl
theorem O8 {gen : Nat} {frz : Bool} {e : Nat} {l : Sh} : B0 nz (.bcells gen frz e l) m = (match m with
  | [some ⟨h, z, .cells A cs⟩] => bif gS gen h && fT frz z && gS e A then eM false l cs else none
  | _ => none) := rfl
end
theorem JT {α β γ : Type} (f : α → β → γ) {a h : α} {b z : β} (h1 : a = h) (h2 : b = z) : f a b = f h z := by rw [h1, h2]
theorem x6 {nz : Bool} {l : Sh} {vs : List KV} {d : l.den} (h : eM nz (.agg l) vs = some d) : ∃ cs, vs = [.agg cs] ∧ eM nz l cs = some d := by
 have h : @Eq (Option l.den) (match (generalizing := false) vs with | [.agg cs] => eM nz l cs | _ => none) (some d) := h
 split at h
 ·exact ⟨_, rfl, h⟩
 ·cases h
theorem y9 {nz : Bool} {l : Sh} {vs : List KV} {d : l.den} (h : eM nz (.tup l) vs = some d) : ∃ cs, vs = [.tup cs] ∧ eM nz l cs = some d := by
 have h : @Eq (Option l.den) (match (generalizing := false) vs with | [.tup cs] => eM nz l cs | _ => none) (some d) := h
 split at h
 ·exact ⟨_, rfl, h⟩
 ·cases h
theorem BW {nz : Bool} {gen : Nat} {frz : Bool} {e : Nat} {l : Sh} {m : aR} {d : l.den} (h : B0 nz (.bcells gen frz e l) m = some d) : ∃ cs, m = [some ⟨gen, frz, .cells e cs⟩] ∧ eM false l cs = some d := by
 have h : @Eq (Option l.den) (match (generalizing := false) m with
  | [some ⟨z, A, .cells H cs⟩] => bif gS gen z && fT frz A && gS e H then eM false l cs else none
  | _ => none) (some d) := h
 split at h
 ·obtain ⟨h1, h2⟩ := c9.1 h
  simp only [yc, cU] at h1
  obtain ⟨⟨rfl, h1⟩, rfl⟩ := h1
  obtain rfl := gM h1
  exact ⟨_, rfl, h2⟩
 ·cases h
theorem nB : ∀ {s : Sh} {vs : List KV} {d : s.den}, eM false s vs = some d → vs = eY s d
 | .int k, vs, d, h => by
  rw [H9] at h
  split at h <;> try contradiction
  obtain ⟨h1, h2⟩ := c9.1 h
  obtain rfl := vV.1 h1
  cases h2; rfl
 | .bool, vs, d, h => by
  rw [FE] at h
  split at h <;> first | contradiction | cases h
  rfl
 | .str, vs, d, h => by
  rw [Hy] at h
  split at h <;> first | contradiction | cases h
  rfl
 | .nilS, vs, d, h => by
  rw [Gi] at h
  split at h <;> first | contradiction | cases h
  rfl
 | .nilP, vs, d, h => by
  rw [FO] at h
  split at h <;> first | contradiction | cases h
  rfl
 | .undef, vs, d, h => by
  rw [CY] at h
  split at h <;> try contradiction
  rename_i a
  split at h <;> try contradiction
  rename_i J
  obtain ⟨l⟩ := a
  simp only at J
  subst J; rfl
 | .sl β ag T, vs, d, h => by
  rw [K0] at h
  split at h <;> try contradiction
  ·rename_i β' A K xs
   obtain ⟨h1, h2⟩ := c9.1 h
   simp only [Bool.false_and, Bool.or_false, yc] at h1
   obtain rfl := gM h1.1
   obtain rfl := gM h1.2
   obtain ⟨e, h2⟩ := fW h2
   subst e
   simp only at h2
   subst h2; rfl
 | .el β ag T c, vs, d, h => by
  rw [Kx] at h
  split at h <;> try contradiction
  rename_i β' A K x c'
  obtain ⟨h1, h2⟩ := c9.1 h
  simp only [Bool.false_and, Bool.or_false, yc] at h1
  obtain rfl := gM h1.1.1
  obtain rfl := gM h1.1.2
  obtain rfl := cU.1 h1.2
  obtain ⟨e, h2⟩ := mP h2
  subst e
  simp only at h2
  subst h2; rfl
 | .ptr b g i c, vs, d, h => by
  rw [I2] at h
  split at h <;> try contradiction
  obtain ⟨h1, h2⟩ := c9.1 h
  simp only [yc, cU] at h1
  obtain ⟨⟨⟨rfl, rfl⟩, rfl⟩, rfl⟩ := h1
  rfl
 | .ptrI b g c, vs, d, h => by
  rw [Gb] at h
  split at h <;> try contradiction
  obtain ⟨h1, h2⟩ := c9.1 h
  simp only [yc, cU] at h1
  obtain ⟨⟨rfl, rfl⟩, rfl⟩ := h1
  cases h2
  rfl
 | .ms b g, vs, d, h => by
  rw [K8] at h
  split at h <;> try contradiction
  obtain ⟨h1, h2⟩ := c9.1 h
  simp only [yc, cU] at h1
  obtain ⟨rfl, rfl⟩ := h1
  cases h2
  rfl
 | .msw b g, vs, d, h => by
  rw [HX] at h
  split at h <;> try contradiction
  obtain ⟨h1, h2⟩ := c9.1 h
  simp only [yc, cU] at h1
  obtain ⟨rfl, rfl⟩ := h1
  rfl
 | .fn f N M, vs, d, h => by
  rw [KM] at h
  split at h <;> try contradiction
  obtain ⟨h1, h2⟩ := c9.1 h
  obtain rfl := cU.1 h1
  split at h2 <;> try contradiction
  rename_i x hx
  split at h2 <;> try contradiction
  rename_i y H
  have z := yb h2
  exact JT (fun u v => [KV.fn (.func f) u v]) ((nB hx).trans (congrArg (eY N) (P2.fst_mk' z).symm)) ((nB H).trans (congrArg (eY M) (P2.snd_mk' z).symm))
 | .agg l, vs, d, h => by
  obtain ⟨cs, rfl, h⟩ := x6 h
  exact congrArg (fun u => [KV.agg u]) (nB (s := l) h)
 | .tup l, vs, d, h => by
  obtain ⟨cs, rfl, h⟩ := y9 h
  exact congrArg (fun u => [KV.tup u]) (nB (s := l) h)
 | .nil, vs, d, h => by
  rw [Ie] at h
  split at h <;> first | contradiction | cases h
  rfl
 | .cons a b, vs, d, h => by
  rw [FV] at h
  split at h <;> try contradiction
  split at h <;> try contradiction
  rename_i x hx
  split at h <;> try contradiction
  rename_i y H
  have z := yb h
  exact JT (fun (u v : List KV) => u ++ v) ((nB hx).trans (congrArg (eY a) (P2.fst_mk' z).symm)) ((nB H).trans (congrArg (eY b) (P2.snd_mk' z).symm))
 | .bnone, vs, d, h => by cases h
 | .bts _ _ _ _ _, vs, d, h => by cases h
 | .bcells _ _ _ _, vs, d, h => by cases h
theorem nF : ∀ {s : Sh} {vs : List KV} {d : s.den}, eM true s vs = some d → mL s (KV.downs vs) d
 | .int k, vs, d, h => by
  rw [H9] at h
  split at h <;> try contradiction
  obtain ⟨h1, h2⟩ := c9.1 h
  obtain rfl := vV.1 h1
  cases h2; rfl
 | .bool, vs, d, h => by
  rw [FE] at h
  split at h <;> first | contradiction | cases h
  rfl
 | .str, vs, d, h => by
  rw [Hy] at h
  split at h <;> first | contradiction | cases h
  rfl
 | .nilS, vs, d, h => by
  rw [Gi] at h
  split at h <;> first | contradiction | cases h
  rfl
 | .nilP, vs, d, h => by
  rw [FO] at h
  split at h <;> first | contradiction | cases h
  rfl
 | .undef, vs, d, h => by
  rw [CY] at h
  split at h <;> try contradiction
  rename_i a
  split at h <;> try contradiction
  rename_i N
  obtain ⟨l⟩ := a
  simp only at N
  subst N; rfl
 | .sl β ag T, vs, d, h => by
  rw [K0] at h
  split at h <;> try contradiction
  ·rename_i β' A O xs
   obtain ⟨h1, h2⟩ := c9.1 h
   simp only [yu, yc, yc2] at h1
   obtain rfl := gM h1.2
   obtain ⟨e, h2⟩ := fW h2
   subst e
   simp only at h2
   subst h2
   refine .inl ⟨β', fun J => ?_, rfl⟩
   rcases h1.1 with h | h
   ·rw [gM h]; exact J
   ·exact h
  ·exact .inr ⟨rfl, (yb h).symm⟩
 | .el β ag T c, vs, d, h => by
  rw [Kx] at h
  split at h <;> try contradiction
  rename_i β' A O x c'
  obtain ⟨h1, h2⟩ := c9.1 h
  simp only [yu, yc, yc2] at h1
  obtain rfl := gM h1.1.2
  obtain rfl := cU.1 h1.2
  obtain ⟨e, h2⟩ := mP h2
  subst e
  simp only at h2
  subst h2
  refine ⟨β', fun J => ?_, rfl⟩
  rcases h1.1.1 with h | h
  ·rw [gM h]; exact J
  ·exact h
 | .ptr b g i c, vs, d, h => by
  rw [I2] at h
  split at h <;> try contradiction
  obtain ⟨h1, h2⟩ := c9.1 h
  simp only [yc, cU] at h1
  obtain ⟨⟨⟨rfl, rfl⟩, rfl⟩, rfl⟩ := h1
  rfl
 | .ptrI b g c, vs, d, h => by
  rw [Gb] at h
  split at h <;> try contradiction
  obtain ⟨h1, h2⟩ := c9.1 h
  simp only [yc, cU] at h1
  obtain ⟨⟨rfl, rfl⟩, rfl⟩ := h1
  cases h2
  rfl
 | .ms b g, vs, d, h => by
  rw [K8] at h
  split at h <;> try contradiction
  obtain ⟨h1, h2⟩ := c9.1 h
  simp only [yc, cU] at h1
  obtain ⟨rfl, rfl⟩ := h1
  cases h2
  rfl
 | .msw b g, vs, d, h => by
  rw [HX] at h
  split at h <;> try contradiction
  obtain ⟨h1, h2⟩ := c9.1 h
  simp only [yc, cU] at h1
  obtain ⟨rfl, rfl⟩ := h1
  rfl
 | .fn f fi ca, vs, d, h => by
  rw [KM] at h
  split at h <;> try contradiction
  obtain ⟨h1, h2⟩ := c9.1 h
  obtain rfl := cU.1 h1
  split at h2 <;> try contradiction
  rename_i x hx
  split at h2 <;> try contradiction
  rename_i y H
  have z := yb h2
  have M := P2.fst_mk' z
  have K := P2.snd_mk' z
  exact ⟨_, _, rfl, M ▸ nF hx, K ▸ nF H⟩
 | .agg l, vs, d, h => by
  obtain ⟨cs, rfl, h⟩ := x6 h
  exact ⟨_, rfl, nF (s := l) h⟩
 | .tup l, vs, d, h => by
  obtain ⟨cs, rfl, h⟩ := y9 h
  exact ⟨_, rfl, nF (s := l) h⟩
 | .nil, vs, d, h => by
  rw [Ie] at h
  split at h <;> first | contradiction | cases h
  rfl
 | .cons a b, vs, d, h => by
  rw [FV] at h
  split at h <;> try contradiction
  split at h <;> try contradiction
  rename_i x hx
  split at h <;> try contradiction
  rename_i y H
  have z := yb h
  have M := P2.fst_mk' z
  have K := P2.snd_mk' z
  exact ⟨_, _, rfl, M ▸ nF hx, K ▸ nF H⟩
 | .bnone, vs, d, h => by cases h
 | .bts _ _ _ _ _, vs, d, h => by cases h
 | .bcells _ _ _ _, vs, d, h => by cases h
theorem w8 {nz : Bool} : ∀ {s : Sh} {m : aR} {d : s.den}, B0 nz s m = some d → m = fV s d
 | .nil, m, d, h => by
  rw [Mx] at h
  split at h <;> first | contradiction | cases h
  rfl
 | .cons a b, m, d, h => by
  rw [LY] at h
  split at h <;> try contradiction
  split at h <;> try contradiction
  rename_i x hx
  split at h <;> try contradiction
  rename_i y A
  have z := yb h
  exact JT (fun (u v : aR) => u ++ v) ((w8 hx).trans (congrArg (fV a) (P2.fst_mk' z).symm)) ((w8 A).trans (congrArg (fV b) (P2.snd_mk' z).symm))
 | .bnone, m, d, h => by
  rw [JB] at h
  split at h <;> first | contradiction | cases h
  rfl
 | .bts gen frz β ag T, m, d, h => by
  rw [MK] at h
  split at h <;> try contradiction
  obtain ⟨h1, h2⟩ := c9.1 h
  simp only [yc, cU] at h1
  obtain ⟨⟨⟨rfl, h1⟩, J⟩, H⟩ := h1
  obtain rfl := gM h1
  obtain rfl := gM J
  obtain rfl := gM H
  obtain ⟨e, h2⟩ := fW h2
  subst e
  simp only at h2
  subst h2; rfl
 | .bcells gen frz e l, m, d, h => by
  obtain ⟨cs, hm, h2⟩ := BW h
  exact hm.trans (congrArg (fun u => ([some ⟨gen, frz, .cells e u⟩] : aR)) (nB (s := l) h2))
 | .int _, m, d, h | .bool, m, d, h | .str, m, d, h | .nilS, m, d, h | .nilP, m, d, h | .undef, m, d, h | .sl _ _ _, m, d, h | .el _ _ _ _, m, d, h | .ptr _ _ _ _, m, d, h
 | .ptrI _ _ _, m, d, h | .ms _ _, m, d, h | .msw _ _, m, d, h | .fn _ _ _, m, d, h | .agg _, m, d, h | .tup _, m, d, h => by cases h
end Go.Ab
