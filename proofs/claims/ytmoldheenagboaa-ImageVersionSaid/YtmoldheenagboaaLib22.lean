/- What is read by a shape is written by it. -/
import Derived.Test.YtmoldheenagboaaLib21
set_option linter.unusedVariables false
set_option linter.unusedSectionVars false
set_option linter.unusedSimpArgs false
namespace Go.Ab
variable [GTab]
theorem zq {a b : Nat} : eqN a b = true ↔ a = b := nb
theorem P2.fst_mk' {a b : Sh} {x : a.den} {y : b.den} {p : P2 a.un b.un a.den b.den} (h : P2.mk a.un b.un x y = p) : P2.fst a.dflt a.un b.un p = x := by subst h; exact Go.Ab.fst_mk x y
theorem P2.snd_mk' {a b : Sh} {x : a.den} {y : b.den} {p : P2 a.un b.un a.den b.den} (h : P2.mk a.un b.un x y = p) : P2.snd b.dflt a.un b.un p = y := by subst h; exact Go.Ab.snd_mk x y
section
variable {nz : Bool} {vs : List KV} {m : KMem}
theorem ziW {k : IntKind} : decS nz (.int k) vs = (match vs with | [.lit (.int k' x)] => bif kEq k k' then some x else none | _ => none) := rfl
theorem zhX : decS nz .bool vs = (match vs with | [.lit (.bool x)] => some x | _ => none) := rfl
theorem ziU : decS nz .str vs = (match vs with | [.lit (.string x)] => some x | _ => none) := rfl
theorem zhG : decS nz .nilS vs = (match vs with | [.lit (.slice none 0 0)] => some () | _ => none) := rfl
theorem zhM : decS nz .nilP vs = (match vs with | [.lit (.pointer none)] => some () | _ => none) := rfl
theorem zfQ : decS nz .undef vs = (match vs with | [.lit (.tuple a)] => (match a.toList with | [] => some () | _ => none) | _ => none) := rfl
theorem zkS {β ag : Bool} {T : Ty} : decS nz (.sl β ag T) vs = (match vs with
  | [.tsl β' ag' T' xs] => bif (beqB β β' || (nz && β)) && beqB ag ag' then castL T' T xs else none
  | [.lit (.slice none 0 0)] => bif nz then some [] else none
  | _ => none) := rfl
theorem zkO {β ag : Bool} {T : Ty} {c : Nat} : decS nz (.el β ag T c) vs = (match vs with
  | [.el β' ag' T' x c'] => bif (beqB β β' || (nz && β)) && beqB ag ag' && eqN c c' then castB (F := Go.Ab.den) (Ty.beq T' T) rfl x else none
  | _ => none) := rfl
theorem zjC {b g i c : Nat} : decS nz (.ptr b g i c) vs = (match vs with | [.ptr b' g' i' c'] => bif eqN b b' && eqN g g' && eqN i i' && eqN c c' then some () else none | _ => none) := rfl
theorem zhF {b g c : Nat} : decS nz (.ptrI b g c) vs = (match vs with | [.ptr b' g' i c'] => bif eqN b b' && eqN g g' && eqN c c' then some i else none | _ => none) := rfl
theorem zkT {b g : Nat} : decS nz (.ms b g) vs = (match vs with | [.ms b' g' o n] => bif eqN b b' && eqN g g' then some (o, n) else none | _ => none) := rfl
theorem zjL {b g : Nat} : decS nz (.msw b g) vs = (match vs with | [.msw b' g'] => bif eqN b b' && eqN g g' then some () else none | _ => none) := rfl
theorem zkU {f : FuncId} {fi ca : Sh} : decS nz (.fn f fi ca) vs = (match vs with
  | [.fn (.func f') fi' ca'] => bif eqN f f' then
    (match decS nz fi fi' with
    | some x => (match decS nz ca ca' with | some y => some (P2.mk _ _ x y) | none => none)
    | none => none) else none
  | _ => none) := rfl
theorem znD {l : Sh} : decS nz (.agg l) vs = (match vs with | [.agg cs] => decS nz l cs | _ => none) := rfl
theorem zny {l : Sh} : decS nz (.tup l) vs = (match vs with | [.tup cs] => decS nz l cs | _ => none) := rfl
theorem zjK : decS nz .nil vs = (match vs with | [] => some () | _ => none) := rfl
theorem zhP {a b : Sh} : decS nz (.cons a b) vs = (match vs with
  | v :: r =>
   (match decS nz a [v] with
   | some x => (match decS nz b r with | some y => some (P2.mk _ _ x y) | none => none)
   | none => none)
  | [] => none) := rfl
theorem zmf : decM nz .nil m = (match m with | [] => some () | _ => none) := rfl
theorem zlt {a b : Sh} : decM nz (.cons a b) m = (match m with
  | x :: r =>
   (match decM nz a [x] with
   | some x => (match decM nz b r with | some y => some (P2.mk _ _ x y) | none => none)
   | none => none)
  | [] => none) := rfl
theorem zkb : decM nz .bnone m = (match m with | [none] => some () | _ => none) := rfl
theorem zmz {gen : Nat} {frz β ag : Bool} {T : Ty} : decM nz (.bts gen frz β ag T) m = (match m with
  | [some ⟨gen', frz', .ts β' ag' T' xs⟩] => bif eqN gen gen' && beqB frz frz' && beqB β β' && beqB ag ag' then castL T' T xs else none
  | _ => none) := rfl
theorem znm {gen : Nat} {frz : Bool} {e : Nat} {l : Sh} : decM nz (.bcells gen frz e l) m = (match m with
  | [some ⟨gen', frz', .cells e' cs⟩] => bif eqN gen gen' && beqB frz frz' && eqN e e' then decS false l cs else none
  | _ => none) := rfl
end
theorem congr2 {α β γ : Type} (f : α → β → γ) {a a' : α} {b b' : β} (h1 : a = a') (h2 : b = b') : f a b = f a' b' := by rw [h1, h2]
theorem zdN {nz : Bool} {l : Sh} {vs : List KV} {d : l.den} (h : decS nz (.agg l) vs = some d) : ∃ cs, vs = [.agg cs] ∧ decS nz l cs = some d := by
 have h : @Eq (Option l.den) (match (generalizing := false) vs with | [.agg cs] => decS nz l cs | _ => none) (some d) := h
 split at h
 ·exact ⟨_, rfl, h⟩
 ·cases h
theorem zec {nz : Bool} {l : Sh} {vs : List KV} {d : l.den} (h : decS nz (.tup l) vs = some d) : ∃ cs, vs = [.tup cs] ∧ decS nz l cs = some d := by
 have h : @Eq (Option l.den) (match (generalizing := false) vs with | [.tup cs] => decS nz l cs | _ => none) (some d) := h
 split at h
 ·exact ⟨_, rfl, h⟩
 ·cases h
theorem zfu {nz : Bool} {gen : Nat} {frz : Bool} {e : Nat} {l : Sh} {m : KMem} {d : l.den} (h : decM nz (.bcells gen frz e l) m = some d) : ∃ cs, m = [some ⟨gen, frz, .cells e cs⟩] ∧ decS false l cs = some d := by
 have h : @Eq (Option l.den) (match (generalizing := false) m with
  | [some ⟨gen', frz', .cells e' cs⟩] => bif eqN gen gen' && beqB frz frz' && eqN e e' then decS false l cs else none
  | _ => none) (some d) := h
 split at h
 ·obtain ⟨h1, h2⟩ := cds.1 h
  simp only [Bool.and_eq_true, zq] at h1
  obtain ⟨⟨rfl, h1⟩, rfl⟩ := h1
  obtain rfl := zae h1
  exact ⟨_, rfl, h2⟩
 ·cases h
theorem zbj : ∀ {s : Sh} {vs : List KV} {d : s.den}, decS false s vs = some d → vs = encS s d
 | .int k, vs, d, h => by
  rw [ziW] at h
  split at h <;> try contradiction
  obtain ⟨h1, h2⟩ := cds.1 h
  obtain rfl := keq.1 h1
  cases h2; rfl
 | .bool, vs, d, h => by
  rw [zhX] at h
  split at h <;> first | contradiction | cases h
  rfl
 | .str, vs, d, h => by
  rw [ziU] at h
  split at h <;> first | contradiction | cases h
  rfl
 | .nilS, vs, d, h => by
  rw [zhG] at h
  split at h <;> first | contradiction | cases h
  rfl
 | .nilP, vs, d, h => by
  rw [zhM] at h
  split at h <;> first | contradiction | cases h
  rfl
 | .undef, vs, d, h => by
  rw [zfQ] at h
  split at h <;> try contradiction
  rename_i a
  split at h <;> try contradiction
  rename_i ha
  obtain ⟨l⟩ := a
  simp only at ha
  subst ha; rfl
 | .sl β ag T, vs, d, h => by
  rw [zkS] at h
  split at h <;> try contradiction
  ·rename_i β' ag' T' xs
   obtain ⟨h1, h2⟩ := cds.1 h
   simp only [Bool.false_and, Bool.or_false, Bool.and_eq_true] at h1
   obtain rfl := zae h1.1
   obtain rfl := zae h1.2
   obtain ⟨e, h2⟩ := zU h2
   subst e
   simp only at h2
   subst h2; rfl
 | .el β ag T c, vs, d, h => by
  rw [zkO] at h
  split at h <;> try contradiction
  rename_i β' ag' T' x c'
  obtain ⟨h1, h2⟩ := cds.1 h
  simp only [Bool.false_and, Bool.or_false, Bool.and_eq_true] at h1
  obtain rfl := zae h1.1.1
  obtain rfl := zae h1.1.2
  obtain rfl := zq.1 h1.2
  obtain ⟨e, h2⟩ := zaV h2
  subst e
  simp only at h2
  subst h2; rfl
 | .ptr b g i c, vs, d, h => by
  rw [zjC] at h
  split at h <;> try contradiction
  obtain ⟨h1, h2⟩ := cds.1 h
  simp only [Bool.and_eq_true, zq] at h1
  obtain ⟨⟨⟨rfl, rfl⟩, rfl⟩, rfl⟩ := h1
  rfl
 | .ptrI b g c, vs, d, h => by
  rw [zhF] at h
  split at h <;> try contradiction
  obtain ⟨h1, h2⟩ := cds.1 h
  simp only [Bool.and_eq_true, zq] at h1
  obtain ⟨⟨rfl, rfl⟩, rfl⟩ := h1
  cases h2
  rfl
 | .ms b g, vs, d, h => by
  rw [zkT] at h
  split at h <;> try contradiction
  obtain ⟨h1, h2⟩ := cds.1 h
  simp only [Bool.and_eq_true, zq] at h1
  obtain ⟨rfl, rfl⟩ := h1
  cases h2
  rfl
 | .msw b g, vs, d, h => by
  rw [zjL] at h
  split at h <;> try contradiction
  obtain ⟨h1, h2⟩ := cds.1 h
  simp only [Bool.and_eq_true, zq] at h1
  obtain ⟨rfl, rfl⟩ := h1
  rfl
 | .fn f fi ca, vs, d, h => by
  rw [zkU] at h
  split at h <;> try contradiction
  obtain ⟨h1, h2⟩ := cds.1 h
  obtain rfl := zq.1 h1
  split at h2 <;> try contradiction
  rename_i x hx
  split at h2 <;> try contradiction
  rename_i y hy
  have hp := Option.some.inj h2
  exact congr2 (fun u v => [KV.fn (.func f) u v]) ((zbj hx).trans (congrArg (encS fi) (P2.fst_mk' hp).symm)) ((zbj hy).trans (congrArg (encS ca) (P2.snd_mk' hp).symm))
 | .agg l, vs, d, h => by
  obtain ⟨cs, rfl, h⟩ := zdN h
  exact congrArg (fun u => [KV.agg u]) (zbj (s := l) h)
 | .tup l, vs, d, h => by
  obtain ⟨cs, rfl, h⟩ := zec h
  exact congrArg (fun u => [KV.tup u]) (zbj (s := l) h)
 | .nil, vs, d, h => by
  rw [zjK] at h
  split at h <;> first | contradiction | cases h
  rfl
 | .cons a b, vs, d, h => by
  rw [zhP] at h
  split at h <;> try contradiction
  split at h <;> try contradiction
  rename_i x hx
  split at h <;> try contradiction
  rename_i y hy
  have hp := Option.some.inj h
  exact congr2 (fun (u v : List KV) => u ++ v) ((zbj hx).trans (congrArg (encS a) (P2.fst_mk' hp).symm)) ((zbj hy).trans (congrArg (encS b) (P2.snd_mk' hp).symm))
 | .bnone, vs, d, h => by cases h
 | .bts _ _ _ _ _, vs, d, h => by cases h
 | .bcells _ _ _ _, vs, d, h => by cases h
theorem zbk : ∀ {s : Sh} {vs : List KV} {d : s.den}, decS true s vs = some d → LeS s (KV.downs vs) d
 | .int k, vs, d, h => by
  rw [ziW] at h
  split at h <;> try contradiction
  obtain ⟨h1, h2⟩ := cds.1 h
  obtain rfl := keq.1 h1
  cases h2; rfl
 | .bool, vs, d, h => by
  rw [zhX] at h
  split at h <;> first | contradiction | cases h
  rfl
 | .str, vs, d, h => by
  rw [ziU] at h
  split at h <;> first | contradiction | cases h
  rfl
 | .nilS, vs, d, h => by
  rw [zhG] at h
  split at h <;> first | contradiction | cases h
  rfl
 | .nilP, vs, d, h => by
  rw [zhM] at h
  split at h <;> first | contradiction | cases h
  rfl
 | .undef, vs, d, h => by
  rw [zfQ] at h
  split at h <;> try contradiction
  rename_i a
  split at h <;> try contradiction
  rename_i ha
  obtain ⟨l⟩ := a
  simp only at ha
  subst ha; rfl
 | .sl β ag T, vs, d, h => by
  rw [zkS] at h
  split at h <;> try contradiction
  ·rename_i β' ag' T' xs
   obtain ⟨h1, h2⟩ := cds.1 h
   simp only [Bool.true_and, Bool.and_eq_true, Bool.or_eq_true] at h1
   obtain rfl := zae h1.2
   obtain ⟨e, h2⟩ := zU h2
   subst e
   simp only at h2
   subst h2
   refine .inl ⟨β', fun hb => ?_, rfl⟩
   rcases h1.1 with h | h
   ·rw [zae h]; exact hb
   ·exact h
  ·exact .inr ⟨rfl, (Option.some.inj h).symm⟩
 | .el β ag T c, vs, d, h => by
  rw [zkO] at h
  split at h <;> try contradiction
  rename_i β' ag' T' x c'
  obtain ⟨h1, h2⟩ := cds.1 h
  simp only [Bool.true_and, Bool.and_eq_true, Bool.or_eq_true] at h1
  obtain rfl := zae h1.1.2
  obtain rfl := zq.1 h1.2
  obtain ⟨e, h2⟩ := zaV h2
  subst e
  simp only at h2
  subst h2
  refine ⟨β', fun hb => ?_, rfl⟩
  rcases h1.1.1 with h | h
  ·rw [zae h]; exact hb
  ·exact h
 | .ptr b g i c, vs, d, h => by
  rw [zjC] at h
  split at h <;> try contradiction
  obtain ⟨h1, h2⟩ := cds.1 h
  simp only [Bool.and_eq_true, zq] at h1
  obtain ⟨⟨⟨rfl, rfl⟩, rfl⟩, rfl⟩ := h1
  rfl
 | .ptrI b g c, vs, d, h => by
  rw [zhF] at h
  split at h <;> try contradiction
  obtain ⟨h1, h2⟩ := cds.1 h
  simp only [Bool.and_eq_true, zq] at h1
  obtain ⟨⟨rfl, rfl⟩, rfl⟩ := h1
  cases h2
  rfl
 | .ms b g, vs, d, h => by
  rw [zkT] at h
  split at h <;> try contradiction
  obtain ⟨h1, h2⟩ := cds.1 h
  simp only [Bool.and_eq_true, zq] at h1
  obtain ⟨rfl, rfl⟩ := h1
  cases h2
  rfl
 | .msw b g, vs, d, h => by
  rw [zjL] at h
  split at h <;> try contradiction
  obtain ⟨h1, h2⟩ := cds.1 h
  simp only [Bool.and_eq_true, zq] at h1
  obtain ⟨rfl, rfl⟩ := h1
  rfl
 | .fn f fi ca, vs, d, h => by
  rw [zkU] at h
  split at h <;> try contradiction
  obtain ⟨h1, h2⟩ := cds.1 h
  obtain rfl := zq.1 h1
  split at h2 <;> try contradiction
  rename_i x hx
  split at h2 <;> try contradiction
  rename_i y hy
  have hp := Option.some.inj h2
  have e1 := P2.fst_mk' hp
  have e2 := P2.snd_mk' hp
  exact ⟨_, _, rfl, e1 ▸ zbk hx, e2 ▸ zbk hy⟩
 | .agg l, vs, d, h => by
  obtain ⟨cs, rfl, h⟩ := zdN h
  exact ⟨_, rfl, zbk (s := l) h⟩
 | .tup l, vs, d, h => by
  obtain ⟨cs, rfl, h⟩ := zec h
  exact ⟨_, rfl, zbk (s := l) h⟩
 | .nil, vs, d, h => by
  rw [zjK] at h
  split at h <;> first | contradiction | cases h
  rfl
 | .cons a b, vs, d, h => by
  rw [zhP] at h
  split at h <;> try contradiction
  split at h <;> try contradiction
  rename_i x hx
  split at h <;> try contradiction
  rename_i y hy
  have hp := Option.some.inj h
  have e1 := P2.fst_mk' hp
  have e2 := P2.snd_mk' hp
  exact ⟨_, _, rfl, e1 ▸ zbk hx, e2 ▸ zbk hy⟩
 | .bnone, vs, d, h => by cases h
 | .bts _ _ _ _ _, vs, d, h => by cases h
 | .bcells _ _ _ _, vs, d, h => by cases h
theorem zea {nz : Bool} : ∀ {s : Sh} {m : KMem} {d : s.den}, decM nz s m = some d → m = encM s d
 | .nil, m, d, h => by
  rw [zmf] at h
  split at h <;> first | contradiction | cases h
  rfl
 | .cons a b, m, d, h => by
  rw [zlt] at h
  split at h <;> try contradiction
  split at h <;> try contradiction
  rename_i x hx
  split at h <;> try contradiction
  rename_i y hy
  have hp := Option.some.inj h
  exact congr2 (fun (u v : KMem) => u ++ v) ((zea hx).trans (congrArg (encM a) (P2.fst_mk' hp).symm)) ((zea hy).trans (congrArg (encM b) (P2.snd_mk' hp).symm))
 | .bnone, m, d, h => by
  rw [zkb] at h
  split at h <;> first | contradiction | cases h
  rfl
 | .bts gen frz β ag T, m, d, h => by
  rw [zmz] at h
  split at h <;> try contradiction
  obtain ⟨h1, h2⟩ := cds.1 h
  simp only [Bool.and_eq_true, zq] at h1
  obtain ⟨⟨⟨rfl, h1⟩, h3⟩, h4⟩ := h1
  obtain rfl := zae h1
  obtain rfl := zae h3
  obtain rfl := zae h4
  obtain ⟨e, h2⟩ := zU h2
  subst e
  simp only at h2
  subst h2; rfl
 | .bcells gen frz e l, m, d, h => by
  obtain ⟨cs, hm, h2⟩ := zfu h
  exact hm.trans (congrArg (fun u => ([some ⟨gen, frz, .cells e u⟩] : KMem)) (zbj (s := l) h2))
 | .int _, m, d, h | .bool, m, d, h | .str, m, d, h | .nilS, m, d, h | .nilP, m, d, h | .undef, m, d, h | .sl _ _ _, m, d, h | .el _ _ _ _, m, d, h | .ptr _ _ _ _, m, d, h
 | .ptrI _ _ _, m, d, h | .ms _ _, m, d, h | .msw _ _, m, d, h | .fn _ _ _, m, d, h | .agg _, m, d, h | .tup _, m, d, h => by cases h
end Go.Ab
