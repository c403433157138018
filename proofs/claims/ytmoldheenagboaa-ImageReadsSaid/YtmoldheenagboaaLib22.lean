import Derived.Test.YtmoldheenagboaaLib21
set_option linter.unusedVariables false
set_option linter.unusedSectionVars false
set_option linter.unusedSimpArgs false
namespace Go.Ab
variable [b8]
theorem cH {a b : Nat} : fY a b = true ↔ a = b := nb
theorem P2.fst_mk' {a b : Sh} {x : a.den} {y : b.den} {p : P2 a.un b.un a.den b.den} (h : P2.mk a.un b.un x y = p) : P2.fst a.dflt a.un b.un p = x := by subst h; exact Go.Ab.fst_mk x y
theorem P2.snd_mk' {a b : Sh} {x : a.den} {y : b.den} {p : P2 a.un b.un a.den b.den} (h : P2.mk a.un b.un x y = p) : P2.snd b.dflt a.un b.un p = y := by subst h; exact Go.Ab.snd_mk x y
section
variable {nz : Bool} {vs : List KV} {m : aO}
theorem Hf {k : IntKind} : dS nz (.int k) vs = (match vs with | [.lit (.int z x)] => bif f6 k z then some x else none | _ => none) := rfl
theorem Dn : dS nz .bool vs = (match vs with | [.lit (.bool x)] => some x | _ => none) := rfl
theorem Gc : dS nz .str vs = (match vs with | [.lit (.string x)] => some x | _ => none) := rfl
theorem Dc : dS nz .nilS vs = (match vs with | [.lit (.slice none 0 0)] => some () | _ => none) := rfl
theorem Eg : dS nz .nilP vs = (match vs with | [.lit (.pointer none)] => some () | _ => none) := rfl
theorem Ct : dS nz .undef vs = (match vs with | [.lit (.tuple a)] => (match a.toList with | [] => some () | _ => none) | _ => none) := rfl
theorem IS {β ag : Bool} {T : Ty} : dS nz (.sl β ag T) vs = (match vs with
  | [.tsl β' z H xs] => bif (eV β β' || (nz && β)) && eV ag z then zH H T xs else none
  | [.lit (.slice none 0 0)] => bif nz then some [] else none
  | _ => none) := rfl
theorem Iz {β ag : Bool} {T : Ty} {c : Nat} : dS nz (.el β ag T c) vs = (match vs with
  | [.el β' z H x J] => bif (eV β β' || (nz && β)) && eV ag z && fY c J then Em (F := Go.Ab.den) (Ty.beq H T) rfl x else none
  | _ => none) := rfl
theorem Gx {b g i c : Nat} : dS nz (.ptr b g i c) vs = (match vs with | [.ptr z g' H J] => bif fY b z && fY g g' && fY i H && fY c J then some () else none | _ => none) := rfl
theorem Dx {b g c : Nat} : dS nz (.ptrI b g c) vs = (match vs with | [.ptr z g' i H] => bif fY b z && fY g g' && fY c H then some i else none | _ => none) := rfl
theorem IG {b g : Nat} : dS nz (.ms b g) vs = (match vs with | [.ms z g' o n] => bif fY b z && fY g g' then some (o, n) else none | _ => none) := rfl
theorem Hj {b g : Nat} : dS nz (.msw b g) vs = (match vs with | [.msw z g'] => bif fY b z && fY g g' then some () else none | _ => none) := rfl
theorem IV {f : FuncId} {J K : Sh} : dS nz (.fn f J K) vs = (match vs with
  | [.fn (.func N) H z] => bif fY f N then
    (match dS nz J H with
    | some x => (match dS nz K z with | some y => some (P2.mk _ _ x y) | none => none)
    | none => none) else none
  | _ => none) := rfl
theorem MY {l : Sh} : dS nz (.agg l) vs = (match vs with | [.agg cs] => dS nz l cs | _ => none) := rfl
theorem MV {l : Sh} : dS nz (.tup l) vs = (match vs with | [.tup cs] => dS nz l cs | _ => none) := rfl
theorem Gg : dS nz .nil vs = (match vs with | [] => some () | _ => none) := rfl
theorem Df {a b : Sh} : dS nz (.cons a b) vs = (match vs with
  | v :: r =>
   (match dS nz a [v] with
   | some x => (match dS nz b r with | some y => some (P2.mk _ _ x y) | none => none)
   | none => none)
  | [] => none) := rfl
theorem Ke : Aq nz .nil m = (match m with | [] => some () | _ => none) := rfl
theorem JJ {a b : Sh} : Aq nz (.cons a b) m = (match m with
  | x :: r =>
   (match Aq nz a [x] with
   | some x => (match Aq nz b r with | some y => some (P2.mk _ _ x y) | none => none)
   | none => none)
  | [] => none) := rfl
theorem Hs : Aq nz .bnone m = (match m with | [none] => some () | _ => none) := rfl
theorem K5 {gen : Nat} {frz β ag : Bool} {T : Ty} : Aq nz (.bts gen frz β ag T) m = (match m with
  | [some ⟨H, z, .ts β' J K xs⟩] => bif fY gen H && eV frz z && eV β β' && eV ag J then zH K T xs else none
  | _ => none) := rfl
theorem LY {gen : Nat} {frz : Bool} {e : Nat} {l : Sh} : Aq nz (.bcells gen frz e l) m = (match m with
  | [some ⟨H, z, .cells J cs⟩] => bif fY gen H && eV frz z && fY e J then dS false l cs else none
  | _ => none) := rfl
end
theorem Hw {α β γ : Type} (f : α → β → γ) {a H : α} {b z : β} (J : a = H) (K : b = z) : f a b = f H z := by rw [J, K]
theorem vD {nz : Bool} {l : Sh} {vs : List KV} {d : l.den} (h : dS nz (.agg l) vs = some d) : ∃ cs, vs = [.agg cs] ∧ dS nz l cs = some d := by
 have h : @Eq (Option l.den) (match (generalizing := false) vs with | [.agg cs] => dS nz l cs | _ => none) (some d) := h
 split at h
 ·exact ⟨_, rfl, h⟩
 ·cases h
theorem vY {nz : Bool} {l : Sh} {vs : List KV} {d : l.den} (h : dS nz (.tup l) vs = some d) : ∃ cs, vs = [.tup cs] ∧ dS nz l cs = some d := by
 have h : @Eq (Option l.den) (match (generalizing := false) vs with | [.tup cs] => dS nz l cs | _ => none) (some d) := h
 split at h
 ·exact ⟨_, rfl, h⟩
 ·cases h
theorem AA {nz : Bool} {gen : Nat} {frz : Bool} {e : Nat} {l : Sh} {m : aO} {d : l.den} (h : Aq nz (.bcells gen frz e l) m = some d) : ∃ cs, m = [some ⟨gen, frz, .cells e cs⟩] ∧ dS false l cs = some d := by
 have h : @Eq (Option l.den) (match (generalizing := false) m with
  | [some ⟨H, z, .cells N cs⟩] => bif fY gen H && eV frz z && fY e N then dS false l cs else none
  | _ => none) (some d) := h
 split at h
 ·obtain ⟨J, K⟩ := cK.1 h
  simp only [yc, cH] at J
  obtain ⟨⟨rfl, J⟩, rfl⟩ := J
  obtain rfl := fS J
  exact ⟨_, rfl, K⟩
 ·cases h
theorem lX : ∀ {s : Sh} {vs : List KV} {d : s.den}, dS false s vs = some d → vs = dG s d
 | .int k, vs, d, h => by
  rw [Hf] at h
  split at h <;> try contradiction
  obtain ⟨z, H⟩ := cK.1 h
  obtain rfl := rT.1 z
  cases H; rfl
 | .bool, vs, d, h => by
  rw [Dn] at h
  split at h <;> first | contradiction | cases h
  rfl
 | .str, vs, d, h => by
  rw [Gc] at h
  split at h <;> first | contradiction | cases h
  rfl
 | .nilS, vs, d, h => by
  rw [Dc] at h
  split at h <;> first | contradiction | cases h
  rfl
 | .nilP, vs, d, h => by
  rw [Eg] at h
  split at h <;> first | contradiction | cases h
  rfl
 | .undef, vs, d, h => by
  rw [Ct] at h
  split at h <;> try contradiction
  rename_i a
  split at h <;> try contradiction
  rename_i U
  obtain ⟨l⟩ := a
  simp only at U
  subst U; rfl
 | .sl β ag T, vs, d, h => by
  rw [IS] at h
  split at h <;> try contradiction
  ·rename_i β' N W xs
   obtain ⟨z, H⟩ := cK.1 h
   simp only [Bool.false_and, Bool.or_false, yc] at z
   obtain rfl := fS z.1
   obtain rfl := fS z.2
   obtain ⟨e, H⟩ := eZ H
   subst e
   simp only at H
   subst H; rfl
 | .el β ag T c, vs, d, h => by
  rw [Iz] at h
  split at h <;> try contradiction
  rename_i β' N W x c'
  obtain ⟨z, H⟩ := cK.1 h
  simp only [Bool.false_and, Bool.or_false, yc] at z
  obtain rfl := fS z.1.1
  obtain rfl := fS z.1.2
  obtain rfl := cH.1 z.2
  obtain ⟨e, H⟩ := kQ H
  subst e
  simp only at H
  subst H; rfl
 | .ptr b g i c, vs, d, h => by
  rw [Gx] at h
  split at h <;> try contradiction
  obtain ⟨z, H⟩ := cK.1 h
  simp only [yc, cH] at z
  obtain ⟨⟨⟨rfl, rfl⟩, rfl⟩, rfl⟩ := z
  rfl
 | .ptrI b g c, vs, d, h => by
  rw [Dx] at h
  split at h <;> try contradiction
  obtain ⟨z, H⟩ := cK.1 h
  simp only [yc, cH] at z
  obtain ⟨⟨rfl, rfl⟩, rfl⟩ := z
  cases H
  rfl
 | .ms b g, vs, d, h => by
  rw [IG] at h
  split at h <;> try contradiction
  obtain ⟨z, H⟩ := cK.1 h
  simp only [yc, cH] at z
  obtain ⟨rfl, rfl⟩ := z
  cases H
  rfl
 | .msw b g, vs, d, h => by
  rw [Hj] at h
  split at h <;> try contradiction
  obtain ⟨z, H⟩ := cK.1 h
  simp only [yc, cH] at z
  obtain ⟨rfl, rfl⟩ := z
  rfl
 | .fn f Y V, vs, d, h => by
  rw [IV] at h
  split at h <;> try contradiction
  obtain ⟨z, H⟩ := cK.1 h
  obtain rfl := cH.1 z
  split at H <;> try contradiction
  rename_i x K
  split at H <;> try contradiction
  rename_i y O
  have J := ya H
  exact Hw (fun u v => [KV.fn (.func f) u v]) ((lX K).trans (congrArg (dG Y) (P2.fst_mk' J).symm)) ((lX O).trans (congrArg (dG V) (P2.snd_mk' J).symm))
 | .agg l, vs, d, h => by
  obtain ⟨cs, rfl, h⟩ := vD h
  exact congrArg (fun u => [KV.agg u]) (lX (s := l) h)
 | .tup l, vs, d, h => by
  obtain ⟨cs, rfl, h⟩ := vY h
  exact congrArg (fun u => [KV.tup u]) (lX (s := l) h)
 | .nil, vs, d, h => by
  rw [Gg] at h
  split at h <;> first | contradiction | cases h
  rfl
 | .cons a b, vs, d, h => by
  rw [Df] at h
  split at h <;> try contradiction
  split at h <;> try contradiction
  rename_i x K
  split at h <;> try contradiction
  rename_i y O
  have J := ya h
  exact Hw (fun (u v : List KV) => u ++ v) ((lX K).trans (congrArg (dG a) (P2.fst_mk' J).symm)) ((lX O).trans (congrArg (dG b) (P2.snd_mk' J).symm))
 | .bnone, vs, d, h => by cases h
 | .bts _ _ _ _ _, vs, d, h => by cases h
 | .bcells _ _ _ _, vs, d, h => by cases h
theorem lG : ∀ {s : Sh} {vs : List KV} {d : s.den}, dS true s vs = some d → kE s (KV.downs vs) d
 | .int k, vs, d, h => by
  rw [Hf] at h
  split at h <;> try contradiction
  obtain ⟨z, H⟩ := cK.1 h
  obtain rfl := rT.1 z
  cases H; rfl
 | .bool, vs, d, h => by
  rw [Dn] at h
  split at h <;> first | contradiction | cases h
  rfl
 | .str, vs, d, h => by
  rw [Gc] at h
  split at h <;> first | contradiction | cases h
  rfl
 | .nilS, vs, d, h => by
  rw [Dc] at h
  split at h <;> first | contradiction | cases h
  rfl
 | .nilP, vs, d, h => by
  rw [Eg] at h
  split at h <;> first | contradiction | cases h
  rfl
 | .undef, vs, d, h => by
  rw [Ct] at h
  split at h <;> try contradiction
  rename_i a
  split at h <;> try contradiction
  rename_i Y
  obtain ⟨l⟩ := a
  simp only at Y
  subst Y; rfl
 | .sl β ag T, vs, d, h => by
  rw [IS] at h
  split at h <;> try contradiction
  ·rename_i β' O Z xs
   obtain ⟨z, H⟩ := cK.1 h
   simp only [Bool.true_and, yc, yx1] at z
   obtain rfl := fS z.2
   obtain ⟨e, H⟩ := eZ H
   subst e
   simp only at H
   subst H
   refine .inl ⟨β', fun W => ?_, rfl⟩
   rcases z.1 with h | h
   ·rw [fS h]; exact W
   ·exact h
  ·exact .inr ⟨rfl, (ya h).symm⟩
 | .el β ag T c, vs, d, h => by
  rw [Iz] at h
  split at h <;> try contradiction
  rename_i β' O Z x c'
  obtain ⟨z, H⟩ := cK.1 h
  simp only [Bool.true_and, yc, yx1] at z
  obtain rfl := fS z.1.2
  obtain rfl := cH.1 z.2
  obtain ⟨e, H⟩ := kQ H
  subst e
  simp only at H
  subst H
  refine ⟨β', fun W => ?_, rfl⟩
  rcases z.1.1 with h | h
  ·rw [fS h]; exact W
  ·exact h
 | .ptr b g i c, vs, d, h => by
  rw [Gx] at h
  split at h <;> try contradiction
  obtain ⟨z, H⟩ := cK.1 h
  simp only [yc, cH] at z
  obtain ⟨⟨⟨rfl, rfl⟩, rfl⟩, rfl⟩ := z
  rfl
 | .ptrI b g c, vs, d, h => by
  rw [Dx] at h
  split at h <;> try contradiction
  obtain ⟨z, H⟩ := cK.1 h
  simp only [yc, cH] at z
  obtain ⟨⟨rfl, rfl⟩, rfl⟩ := z
  cases H
  rfl
 | .ms b g, vs, d, h => by
  rw [IG] at h
  split at h <;> try contradiction
  obtain ⟨z, H⟩ := cK.1 h
  simp only [yc, cH] at z
  obtain ⟨rfl, rfl⟩ := z
  cases H
  rfl
 | .msw b g, vs, d, h => by
  rw [Hj] at h
  split at h <;> try contradiction
  obtain ⟨z, H⟩ := cK.1 h
  simp only [yc, cH] at z
  obtain ⟨rfl, rfl⟩ := z
  rfl
 | .fn f fi ca, vs, d, h => by
  rw [IV] at h
  split at h <;> try contradiction
  obtain ⟨z, H⟩ := cK.1 h
  obtain rfl := cH.1 z
  split at H <;> try contradiction
  rename_i x N
  split at H <;> try contradiction
  rename_i y V
  have J := ya H
  have U := P2.fst_mk' J
  have K := P2.snd_mk' J
  exact ⟨_, _, rfl, U ▸ lG N, K ▸ lG V⟩
 | .agg l, vs, d, h => by
  obtain ⟨cs, rfl, h⟩ := vD h
  exact ⟨_, rfl, lG (s := l) h⟩
 | .tup l, vs, d, h => by
  obtain ⟨cs, rfl, h⟩ := vY h
  exact ⟨_, rfl, lG (s := l) h⟩
 | .nil, vs, d, h => by
  rw [Gg] at h
  split at h <;> first | contradiction | cases h
  rfl
 | .cons a b, vs, d, h => by
  rw [Df] at h
  split at h <;> try contradiction
  split at h <;> try contradiction
  rename_i x N
  split at h <;> try contradiction
  rename_i y V
  have J := ya h
  have U := P2.fst_mk' J
  have K := P2.snd_mk' J
  exact ⟨_, _, rfl, U ▸ lG N, K ▸ lG V⟩
 | .bnone, vs, d, h => by cases h
 | .bts _ _ _ _ _, vs, d, h => by cases h
 | .bcells _ _ _ _, vs, d, h => by cases h
theorem wG {nz : Bool} : ∀ {s : Sh} {m : aO} {d : s.den}, Aq nz s m = some d → m = eH s d
 | .nil, m, d, h => by
  rw [Ke] at h
  split at h <;> first | contradiction | cases h
  rfl
 | .cons a b, m, d, h => by
  rw [JJ] at h
  split at h <;> try contradiction
  split at h <;> try contradiction
  rename_i x N
  split at h <;> try contradiction
  rename_i y O
  have J := ya h
  exact Hw (fun (u v : aO) => u ++ v) ((wG N).trans (congrArg (eH a) (P2.fst_mk' J).symm)) ((wG O).trans (congrArg (eH b) (P2.snd_mk' J).symm))
 | .bnone, m, d, h => by
  rw [Hs] at h
  split at h <;> first | contradiction | cases h
  rfl
 | .bts gen frz β ag T, m, d, h => by
  rw [K5] at h
  split at h <;> try contradiction
  obtain ⟨H, z⟩ := cK.1 h
  simp only [yc, cH] at H
  obtain ⟨⟨⟨rfl, H⟩, U⟩, K⟩ := H
  obtain rfl := fS H
  obtain rfl := fS U
  obtain rfl := fS K
  obtain ⟨e, z⟩ := eZ z
  subst e
  simp only at z
  subst z; rfl
 | .bcells gen frz e l, m, d, h => by
  obtain ⟨cs, V, z⟩ := AA h
  exact V.trans (congrArg (fun u => ([some ⟨gen, frz, .cells e u⟩] : aO)) (lX (s := l) z))
 | .int _, m, d, h | .bool, m, d, h | .str, m, d, h | .nilS, m, d, h | .nilP, m, d, h | .undef, m, d, h | .sl _ _ _, m, d, h | .el _ _ _ _, m, d, h | .ptr _ _ _ _, m, d, h
 | .ptrI _ _ _, m, d, h | .ms _ _, m, d, h | .msw _ _, m, d, h | .fn _ _ _, m, d, h | .agg _, m, d, h | .tup _, m, d, h => by cases h
end Go.Ab
