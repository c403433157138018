import Derived.Test.YtdlbbdbbpoggfaaGreatDoorLib21
set_option linter.unusedVariables false
set_option linter.unusedSectionVars false
set_option linter.unusedSimpArgs false
namespace Go.Ab
variable [cD]
theorem cU {a b : Nat} : gS a b = true ↔ a = b := nb
theorem P2.fst_mk' {a b : Sh} {x : a.den} {y : b.den} {p : P2 a.un b.un a.den b.den} (h : P2.mk a.un b.un x y = p) : P2.fst a.dflt a.un b.un p = x := by subst h; exact Go.Ab.fst_mk x y
theorem P2.snd_mk' {a b : Sh} {x : a.den} {y : b.den} {p : P2 a.un b.un a.den b.den} (h : P2.mk a.un b.un x y = p) : P2.snd b.dflt a.un b.un p = y := by subst h; exact Go.Ab.snd_mk x y
section
variable {nz : Bool} {vs : List KV} {m : aR}
theorem IR {k : IntKind} : eJ nz (.int k) vs = (match vs with | [.lit (.int h x)] => bif gV k h then some x else none | _ => none) := rfl
theorem FY : eJ nz .bool vs = (match vs with | [.lit (.bool x)] => some x | _ => none) := rfl
theorem HJ : eJ nz .str vs = (match vs with | [.lit (.string x)] => some x | _ => none) := rfl
theorem Gj : eJ nz .nilS vs = (match vs with | [.lit (.slice none 0 0)] => some () | _ => none) := rfl
theorem FP : eJ nz .nilP vs = (match vs with | [.lit (.pointer none)] => some () | _ => none) := rfl
theorem C0 : eJ nz .undef vs = (match vs with | [.lit (.tuple a)] => (match a.toList with | [] => some () | _ => none) | _ => none) := rfl
theorem KO {β ag : Bool} {T : Ty} : eJ nz (.sl β ag T) vs = (match vs with
  | [.tsl β' h z xs] => bif (fU β β' || (nz && β)) && fU ag h then BL z T xs else none
  | [.lit (.slice none 0 0)] => bif nz then some [] else none
  | _ => none) := rfl
theorem KM {β ag : Bool} {T : Ty} {c : Nat} : eJ nz (.el β ag T c) vs = (match vs with
  | [.el β' h A x z] => bif (fU β β' || (nz && β)) && fU ag h && gS c z then Fw (F := Go.Ab.den) (Ty.beq A T) rfl x else none
  | _ => none) := rfl
theorem Jc {b g i c : Nat} : eJ nz (.ptr b g i c) vs = (match vs with | [.ptr z g' A h] => bif gS b z && gS g g' && gS i A && gS c h then some () else none | _ => none) := rfl
theorem F8 {b g c : Nat} : eJ nz (.ptrI b g c) vs = (match vs with | [.ptr z g' i h] => bif gS b z && gS g g' && gS c h then some i else none | _ => none) := rfl
theorem K7 {b g : Nat} : eJ nz (.ms b g) vs = (match vs with | [.ms h g' o n] => bif gS b h && gS g g' then some (o, n) else none | _ => none) := rfl
theorem HR {b g : Nat} : eJ nz (.msw b g) vs = (match vs with | [.msw h g'] => bif gS b h && gS g g' then some () else none | _ => none) := rfl
theorem K3 {f : FuncId} {A H : Sh} : eJ nz (.fn f A H) vs = (match vs with
  | [.fn (.func J) z h] => bif gS f J then
    (match eJ nz A z with
    | some x => (match eJ nz H h with | some y => some (P2.mk _ _ x y) | none => none)
    | none => none) else none
  | _ => none) := rfl
theorem PQ {l : Sh} : eJ nz (.agg l) vs = (match vs with | [.agg cs] => eJ nz l cs | _ => none) := rfl
theorem P6 {l : Sh} : eJ nz (.tup l) vs = (match vs with | [.tup cs] => eJ nz l cs | _ => none) := rfl
theorem Iy : eJ nz .nil vs = (match vs with | [] => some () | _ => none) := rfl
theorem FU {a b : Sh} : eJ nz (.cons a b) vs = (match vs with
  | v :: r =>
   (match eJ nz a [v] with
   | some x => (match eJ nz b r with | some y => some (P2.mk _ _ x y) | none => none)
   | none => none)
  | [] => none) := rfl
theorem NM : B6 nz .nil m = (match m with | [] => some () | _ => none) := rfl
theorem L3 {a b : Sh} : B6 nz (.cons a b) m = (match m with
  | x :: r =>
   (match B6 nz a [x] with
   | some x => (match B6 nz b r with | some y => some (P2.mk _ _ x y) | none => none)
   | none => none)
  | [] => none) := rfl
theorem Kl : B6 nz .bnone m = (match m with | [none] => some () | _ => none) := rfl
theorem MS {gen : Nat} {frz β ag : Bool} {T : Ty} : B6 nz (.bts gen frz β ag T) m = (match m with
  | [some ⟨h, z, .ts β' A H xs⟩] => bif gS gen h && fU frz z && fU β β' && fU ag A then BL H T xs else none
  | _ => none) := rfl
theorem O7 {gen : Nat} {frz : Bool} {e : Nat} {l : Sh} : B6 nz (.bcells gen frz e l) m = (match m with
  | [some ⟨h, z, .cells A cs⟩] => bif gS gen h && fU frz z && gS e A then eJ false l cs else none
  | _ => none) := rfl
end
theorem Jo {α β γ : Type} (f : α → β → γ) {a h : α} {b z : β} (h1 : a = h) (h2 : b = z) : f a b = f h z := by rw [h1, h2]
theorem yV {nz : Bool} {l : Sh} {vs : List KV} {d : l.den} (h : eJ nz (.agg l) vs = some d) : ∃ cs, vs = [.agg cs] ∧ eJ nz l cs = some d := by
 have h : @Eq (Option l.den) (match (generalizing := false) vs with | [.agg cs] => eJ nz l cs | _ => none) (some d) := h
 split at h
 ·exact ⟨_, rfl, h⟩
 ·cases h
theorem z4 {nz : Bool} {l : Sh} {vs : List KV} {d : l.den} (h : eJ nz (.tup l) vs = some d) : ∃ cs, vs = [.tup cs] ∧ eJ nz l cs = some d := by
 have h : @Eq (Option l.den) (match (generalizing := false) vs with | [.tup cs] => eJ nz l cs | _ => none) (some d) := h
 split at h
 ·exact ⟨_, rfl, h⟩
 ·cases h
theorem B5 {nz : Bool} {gen : Nat} {frz : Bool} {e : Nat} {l : Sh} {m : aR} {d : l.den} (h : B6 nz (.bcells gen frz e l) m = some d) : ∃ cs, m = [some ⟨gen, frz, .cells e cs⟩] ∧ eJ false l cs = some d := by
 have h : @Eq (Option l.den) (match (generalizing := false) m with
  | [some ⟨z, A, .cells H cs⟩] => bif gS gen z && fU frz A && gS e H then eJ false l cs else none
  | _ => none) (some d) := h
 split at h
 ·obtain ⟨h1, h2⟩ := c9.1 h
  simp only [yc, cU] at h1
  obtain ⟨⟨rfl, h1⟩, rfl⟩ := h1
  obtain rfl := gF h1
  exact ⟨_, rfl, h2⟩
 ·cases h
theorem nJ : ∀ {s : Sh} {vs : List KV} {d : s.den}, eJ false s vs = some d → vs = eX s d
 | .int k, vs, d, h => by
  rw [IR] at h
  split at h <;> try contradiction
  obtain ⟨h1, h2⟩ := c9.1 h
  obtain rfl := vJ.1 h1
  cases h2; rfl
 | .bool, vs, d, h => by
  rw [FY] at h
  split at h <;> first | contradiction | cases h
  rfl
 | .str, vs, d, h => by
  rw [HJ] at h
  split at h <;> first | contradiction | cases h
  rfl
 | .nilS, vs, d, h => by
  rw [Gj] at h
  split at h <;> first | contradiction | cases h
  rfl
 | .nilP, vs, d, h => by
  rw [FP] at h
  split at h <;> first | contradiction | cases h
  rfl
 | .undef, vs, d, h => by
  rw [C0] at h
  split at h <;> try contradiction
  rename_i a
  split at h <;> try contradiction
  rename_i J
  obtain ⟨l⟩ := a
  simp only at J
  subst J; rfl
 | .sl β ag T, vs, d, h => by
  rw [KO] at h
  split at h <;> try contradiction
  ·rename_i β' A N xs
   obtain ⟨h1, h2⟩ := c9.1 h
   simp only [Bool.false_and, Bool.or_false, yc] at h1
   obtain rfl := gF h1.1
   obtain rfl := gF h1.2
   obtain ⟨e, h2⟩ := gA h2
   subst e
   simp only at h2
   subst h2; rfl
 | .el β ag T c, vs, d, h => by
  rw [KM] at h
  split at h <;> try contradiction
  rename_i β' A N x c'
  obtain ⟨h1, h2⟩ := c9.1 h
  simp only [Bool.false_and, Bool.or_false, yc] at h1
  obtain rfl := gF h1.1.1
  obtain rfl := gF h1.1.2
  obtain rfl := cU.1 h1.2
  obtain ⟨e, h2⟩ := l7 h2
  subst e
  simp only at h2
  subst h2; rfl
 | .ptr b g i c, vs, d, h => by
  rw [Jc] at h
  split at h <;> try contradiction
  obtain ⟨h1, h2⟩ := c9.1 h
  simp only [yc, cU] at h1
  obtain ⟨⟨⟨rfl, rfl⟩, rfl⟩, rfl⟩ := h1
  rfl
 | .ptrI b g c, vs, d, h => by
  rw [F8] at h
  split at h <;> try contradiction
  obtain ⟨h1, h2⟩ := c9.1 h
  simp only [yc, cU] at h1
  obtain ⟨⟨rfl, rfl⟩, rfl⟩ := h1
  cases h2
  rfl
 | .ms b g, vs, d, h => by
  rw [K7] at h
  split at h <;> try contradiction
  obtain ⟨h1, h2⟩ := c9.1 h
  simp only [yc, cU] at h1
  obtain ⟨rfl, rfl⟩ := h1
  cases h2
  rfl
 | .msw b g, vs, d, h => by
  rw [HR] at h
  split at h <;> try contradiction
  obtain ⟨h1, h2⟩ := c9.1 h
  simp only [yc, cU] at h1
  obtain ⟨rfl, rfl⟩ := h1
  rfl
 | .fn f K M, vs, d, h => by
  rw [K3] at h
  split at h <;> try contradiction
  obtain ⟨h1, h2⟩ := c9.1 h
  obtain rfl := cU.1 h1
  split at h2 <;> try contradiction
  rename_i x hx
  split at h2 <;> try contradiction
  rename_i y H
  have z := yb h2
  exact Jo (fun u v => [KV.fn (.func f) u v]) ((nJ hx).trans (congrArg (eX K) (P2.fst_mk' z).symm)) ((nJ H).trans (congrArg (eX M) (P2.snd_mk' z).symm))
 | .agg l, vs, d, h => by
  obtain ⟨cs, rfl, h⟩ := yV h
  exact congrArg (fun u => [KV.agg u]) (nJ (s := l) h)
 | .tup l, vs, d, h => by
  obtain ⟨cs, rfl, h⟩ := z4 h
  exact congrArg (fun u => [KV.tup u]) (nJ (s := l) h)
 | .nil, vs, d, h => by
  rw [Iy] at h
  split at h <;> first | contradiction | cases h
  rfl
 | .cons a b, vs, d, h => by
  rw [FU] at h
  split at h <;> try contradiction
  split at h <;> try contradiction
  rename_i x hx
  split at h <;> try contradiction
  rename_i y H
  have z := yb h
  exact Jo (fun (u v : List KV) => u ++ v) ((nJ hx).trans (congrArg (eX a) (P2.fst_mk' z).symm)) ((nJ H).trans (congrArg (eX b) (P2.snd_mk' z).symm))
 | .bnone, vs, d, h => by cases h
 | .bts _ _ _ _ _, vs, d, h => by cases h
 | .bcells _ _ _ _, vs, d, h => by cases h
theorem m9 : ∀ {s : Sh} {vs : List KV} {d : s.den}, eJ true s vs = some d → l9 s (KV.downs vs) d
 | .int k, vs, d, h => by
  rw [IR] at h
  split at h <;> try contradiction
  obtain ⟨h1, h2⟩ := c9.1 h
  obtain rfl := vJ.1 h1
  cases h2; rfl
 | .bool, vs, d, h => by
  rw [FY] at h
  split at h <;> first | contradiction | cases h
  rfl
 | .str, vs, d, h => by
  rw [HJ] at h
  split at h <;> first | contradiction | cases h
  rfl
 | .nilS, vs, d, h => by
  rw [Gj] at h
  split at h <;> first | contradiction | cases h
  rfl
 | .nilP, vs, d, h => by
  rw [FP] at h
  split at h <;> first | contradiction | cases h
  rfl
 | .undef, vs, d, h => by
  rw [C0] at h
  split at h <;> try contradiction
  rename_i a
  split at h <;> try contradiction
  rename_i N
  obtain ⟨l⟩ := a
  simp only at N
  subst N; rfl
 | .sl β ag T, vs, d, h => by
  rw [KO] at h
  split at h <;> try contradiction
  ·rename_i β' A O xs
   obtain ⟨h1, h2⟩ := c9.1 h
   simp only [yu, yc, yc2] at h1
   obtain rfl := gF h1.2
   obtain ⟨e, h2⟩ := gA h2
   subst e
   simp only at h2
   subst h2
   refine .inl ⟨β', fun H => ?_, rfl⟩
   rcases h1.1 with h | h
   ·rw [gF h]; exact H
   ·exact h
  ·exact .inr ⟨rfl, (yb h).symm⟩
 | .el β ag T c, vs, d, h => by
  rw [KM] at h
  split at h <;> try contradiction
  rename_i β' A O x c'
  obtain ⟨h1, h2⟩ := c9.1 h
  simp only [yu, yc, yc2] at h1
  obtain rfl := gF h1.1.2
  obtain rfl := cU.1 h1.2
  obtain ⟨e, h2⟩ := l7 h2
  subst e
  simp only at h2
  subst h2
  refine ⟨β', fun H => ?_, rfl⟩
  rcases h1.1.1 with h | h
  ·rw [gF h]; exact H
  ·exact h
 | .ptr b g i c, vs, d, h => by
  rw [Jc] at h
  split at h <;> try contradiction
  obtain ⟨h1, h2⟩ := c9.1 h
  simp only [yc, cU] at h1
  obtain ⟨⟨⟨rfl, rfl⟩, rfl⟩, rfl⟩ := h1
  rfl
 | .ptrI b g c, vs, d, h => by
  rw [F8] at h
  split at h <;> try contradiction
  obtain ⟨h1, h2⟩ := c9.1 h
  simp only [yc, cU] at h1
  obtain ⟨⟨rfl, rfl⟩, rfl⟩ := h1
  cases h2
  rfl
 | .ms b g, vs, d, h => by
  rw [K7] at h
  split at h <;> try contradiction
  obtain ⟨h1, h2⟩ := c9.1 h
  simp only [yc, cU] at h1
  obtain ⟨rfl, rfl⟩ := h1
  cases h2
  rfl
 | .msw b g, vs, d, h => by
  rw [HR] at h
  split at h <;> try contradiction
  obtain ⟨h1, h2⟩ := c9.1 h
  simp only [yc, cU] at h1
  obtain ⟨rfl, rfl⟩ := h1
  rfl
 | .fn f fi ca, vs, d, h => by
  rw [K3] at h
  split at h <;> try contradiction
  obtain ⟨h1, h2⟩ := c9.1 h
  obtain rfl := cU.1 h1
  split at h2 <;> try contradiction
  rename_i x hx
  split at h2 <;> try contradiction
  rename_i y K
  have z := yb h2
  have M := P2.fst_mk' z
  have J := P2.snd_mk' z
  exact ⟨_, _, rfl, M ▸ m9 hx, J ▸ m9 K⟩
 | .agg l, vs, d, h => by
  obtain ⟨cs, rfl, h⟩ := yV h
  exact ⟨_, rfl, m9 (s := l) h⟩
 | .tup l, vs, d, h => by
  obtain ⟨cs, rfl, h⟩ := z4 h
  exact ⟨_, rfl, m9 (s := l) h⟩
 | .nil, vs, d, h => by
  rw [Iy] at h
  split at h <;> first | contradiction | cases h
  rfl
 | .cons a b, vs, d, h => by
  rw [FU] at h
  split at h <;> try contradiction
  split at h <;> try contradiction
  rename_i x hx
  split at h <;> try contradiction
  rename_i y K
  have z := yb h
  have M := P2.fst_mk' z
  have J := P2.snd_mk' z
  exact ⟨_, _, rfl, M ▸ m9 hx, J ▸ m9 K⟩
 | .bnone, vs, d, h => by cases h
 | .bts _ _ _ _ _, vs, d, h => by cases h
 | .bcells _ _ _ _, vs, d, h => by cases h
theorem zW {nz : Bool} : ∀ {s : Sh} {m : aR} {d : s.den}, B6 nz s m = some d → m = fV s d
 | .nil, m, d, h => by
  rw [NM] at h
  split at h <;> first | contradiction | cases h
  rfl
 | .cons a b, m, d, h => by
  rw [L3] at h
  split at h <;> try contradiction
  split at h <;> try contradiction
  rename_i x hx
  split at h <;> try contradiction
  rename_i y A
  have z := yb h
  exact Jo (fun (u v : aR) => u ++ v) ((zW hx).trans (congrArg (fV a) (P2.fst_mk' z).symm)) ((zW A).trans (congrArg (fV b) (P2.snd_mk' z).symm))
 | .bnone, m, d, h => by
  rw [Kl] at h
  split at h <;> first | contradiction | cases h
  rfl
 | .bts gen frz β ag T, m, d, h => by
  rw [MS] at h
  split at h <;> try contradiction
  obtain ⟨h1, h2⟩ := c9.1 h
  simp only [yc, cU] at h1
  obtain ⟨⟨⟨rfl, h1⟩, H⟩, J⟩ := h1
  obtain rfl := gF h1
  obtain rfl := gF H
  obtain rfl := gF J
  obtain ⟨e, h2⟩ := gA h2
  subst e
  simp only at h2
  subst h2; rfl
 | .bcells gen frz e l, m, d, h => by
  obtain ⟨cs, hm, h2⟩ := B5 h
  exact hm.trans (congrArg (fun u => ([some ⟨gen, frz, .cells e u⟩] : aR)) (nJ (s := l) h2))
 | .int _, m, d, h | .bool, m, d, h | .str, m, d, h | .nilS, m, d, h | .nilP, m, d, h | .undef, m, d, h | .sl _ _ _, m, d, h | .el _ _ _ _, m, d, h | .ptr _ _ _ _, m, d, h
 | .ptrI _ _ _, m, d, h | .ms _ _, m, d, h | .msw _ _, m, d, h | .fn _ _ _, m, d, h | .agg _, m, d, h | .tup _, m, d, h => by cases h
end Go.Ab
