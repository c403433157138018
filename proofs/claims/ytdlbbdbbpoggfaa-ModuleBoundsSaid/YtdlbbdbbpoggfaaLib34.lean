import Derived.Test.YtdlbbdbbpoggfaaLib33
set_option linter.unusedVariables false
set_option linter.unusedSectionVars false
namespace Go.Ab
variable [b4]
variable {P : Program} {tab : TypeId → Option TI}
def wP : Sh → List (Option Bool)
 | .cons a b => wP a ++ wP b
 | .bnone => [none]
 | .bts _ _ _ _ _ => [some false]
 | .bcells _ _ _ _ => [some true]
 | .bos _ _ _ _ => [some false]
 | _ => []
theorem n9 : ∀ (a b : aD), e7 (a ++ b) = e7 a ++ e7 b
 | [], _ => rfl
 | none :: r, b => congrArg (none :: ·) (n9 r b)
 | some _ :: r, b => congrArg (_ :: ·) (n9 r b)
theorem E8 : ∀ (s : Sh) (d : s.den), e7 (e8 s d) = wP s := by
 intro s
 induction s with
 | cons a b I H => intro d; show e7 (e8 a _ ++ e8 b _) = _; rw [n9, I, H]; rfl
 | _ => intro d; rfl
noncomputable def GS (f : Func) : Code := match f.body with | some c => c | none => .skip
noncomputable def Oi (b : Nat) (c : Code) : Code := match eF b (fK c 0) with | some c => c | none => .skip
def NK (b : Nat) (an : lA) : List Nat := match eF b an.live with | some l => l | none => []
def CB : List (Nat × aC) → FuncId → List aC
 | [] => fun _ => []
 | q :: l => fun f => bif Nat.beq f q.1 then q.2 :: CB l f else CB l f
def TL (P : Program) (l : List (Nat × aC)) : Prop := ∀ q ∈ l, aW P q.1 q.2
theorem TL.e : TL P [] := fun _ h => by cases h
theorem TL.k {g : Nat} {E : aC} {l : List (Nat × aC)} (h : aW P g E) (r : TL P l) : TL P ((g, E) :: l) := fun q H => by
 rcases yn1.1 H with rfl | H
 ·exact h
 ·exact r q H
theorem TL.ok : ∀ {l : List (Nat × aC)}, TL P l → rH P (CB l)
 | [], _, _, _, h => by cases h
 | q :: l, I, f, E, h => by
  have hr : TL P l := fun x J => I x (yh _ J)
  simp only [CB] at h
  cases H : Nat.beq f q.1 with
  | true =>
   rw [H] at h
   rcases yn1.1 h with rfl | h
   ·obtain rfl := nb.1 H; exact I q ym
   ·exact hr.ok f E h
  | false => rw [H] at h; exact hr.ok f E h
section
variable {tbl : FuncId → List aC} {loops : Nat → Option aL} {an : lA} {old : List (Option Bool)} {n : Nat} {c : Code}
def LF (tab : TypeId → Option TI) (tbl : FuncId → List aC) (loops : Nat → Option aL) (an : lA) (old : List (Option Bool)) (n : Nat) (c : Code) (b : Nat) (L : aL) : Prop :=
 ∃ B : eN L.heads → Option (eN L.heads ⊕ eN L.outs), (∀ s, L.run s = bL B n s) ∧ ∀ s, FO (aP _) tab tbl loops an old (Oi b c) b (NK b an) L.heads L.outs s some = B s
def LS (tab : TypeId → Option TI) (tbl : FuncId → List aC) (loops : Nat → Option aL) (an : lA) (old : List (Option Bool)) (n : Nat) (c : Code) (l : List (Nat × aL)) : Prop := ∀ q ∈ l, LF tab tbl loops an old n c q.1 q.2
theorem LS.e : LS tab tbl loops an old n c [] := fun _ h => by cases h
theorem LS.k {b : Nat} {L : aL} {l : List (Nat × aL)} {B : eN L.heads → Option (eN L.heads ⊕ eN L.outs)} (h : ∀ s, L.run s = bL B n s)
  (g : ∀ s, FO (aP _) tab tbl loops an old (Oi b c) b (NK b an) L.heads L.outs s some = B s) (r : LS tab tbl loops an old n c l) : LS tab tbl loops an old n c ((b, L) :: l) := fun q H => by
 rcases yn1.1 H with rfl | H
 ·exact ⟨B, h, g⟩
 ·exact r q H
theorem Aj {α : Type} : ∀ {l : List (Nat × α)} {b : Nat} {x : α}, eF b l = some x → (b, x) ∈ l
 | [], _, _, h => by cases h
 | p :: l, b, x, h => by
  have H : (bif Nat.beq p.1 b then some p.2 else eF b l) = some x := h
  cases I : Nat.beq p.1 b with
  | true => rw [I] at H; obtain rfl := nb.1 I; obtain rfl := ya H; exact ym
  | false => rw [I] at H; exact yh _ (Aj H)
def M8 (an : lA) : List (Nat × aL) → Bool
 | [] => true
 | q :: l => (match eF q.1 an.live with | some l => dS 0 l | none => false) && M8 an l
theorem LS.lt : ∀ {l : List (Nat × aL)}, M8 an l = true → LS tab tbl loops an old n c l → LT tab tbl loops an old n c fun b => eF b l := by
 intro l H h b L hL c' J
 have hm := Aj hL
 have N : ∀ {l : List (Nat × aL)}, M8 an l = true → ∀ q ∈ l, ∃ x, eF q.1 an.live = some x ∧ dS 0 x = true := by
  intro l
  induction l with
  | nil => intro _ q I; cases I
  | cons p l V =>
   intro H q I
   simp only [M8, yb] at H
   rcases yn1.1 I with rfl | I
   ·cases K : eF q.1 an.live with
    | none => rw [K] at H; cases H.1
    | some x => rw [K] at H; exact ⟨x, rfl, H.1⟩
   ·exact V H.2 q I
 obtain ⟨x, M, U⟩ := N H _ hm
 obtain ⟨B, O, W⟩ := h _ hm
 refine ⟨x, B, M, U, O, fun s => ?_⟩
 have := W s
 simp only [Oi, NK] at this
 rw [J, M] at this
 exact this
end
def OX (fn : Func) (an : lA) (E : aC) (ls : List (Nat × aL)) : Bool :=
 (match fn.body with | some c => Om fn c E && dR ((fK c 0).map (·.1)) | none => false) && M8 an ls
structure Qe (P : Program) (tab : TypeId → Option TI) : Prop where
 hn : m9 P = true
 hm : P.follows .mixedOrders = true
 ht : bI P tab
section
variable {fn : Func} {f : FuncId} {E : aC} {l : List (Nat × aC)}
theorem LG {an : lA} {ls : List (Nat × aL)} (H : OX fn an E ls = true) : fn.body = some (GS fn) ∧ Om fn (GS fn) E = true ∧ dR ((fK (GS fn) 0).map (·.1)) = true ∧ M8 an ls = true := by
 simp only [OX, yb] at H
 unfold GS
 cases I : fn.body with
 | none => rw [I] at H; cases H.1
 | some c =>
  rw [I] at H
  simp only [yb] at H
  exact ⟨rfl, H.1.1, H.1.2, H.2⟩
theorem aW.b (n : Nat) (I : Qe P tab) (fn : Func) (an : lA) (ls : List (Nat × aL)) (hT : TL P l) (J : LS tab (CB l) (fun b => eF b ls) an (wP E.a.msh) n (GS fn) ls)
  (M : P.funcs[f]? = some fn) (K : OX fn an E ls = true) (H : ∀ a, OG (aP (eN E.r)) tab (CB l) (fun b => eF b ls) an fn E.a E.r a some = E.sh a) : aW P f E :=
 have h := LG K
 .of I.hn I.hm I.ht hT.ok M h.1 h.2.1 h.2.2.1 (fun _ => E8 _ _) (J.lt h.2.2.2) H
theorem aW.bS (n : Nat) (I : Qe P tab) (fn : Func) (an : lA) (ls : List (Nat × aL)) (hT : TL P l) (J : LS tab (CB l) (fun b => eF b ls) an (wP E.a.msh) n (GS fn) ls)
  (M : P.funcs[f]? = some fn) (K : OX fn an E ls = true) (H : ∀ a, LM (aP (eN E.r)) tab (CB l) (fun b => eF b ls) an fn (wP E.a.msh).length E.a E.r a some = E.sh a) : aW P f E :=
 have h := LG K
 .ofS I.hn I.hm I.ht hT.ok M h.1 h.2.1 h.2.2.1 (fun _ => E8 _ _) (J.lt h.2.2.2) H
end
abbrev u1 (a : Sh) : Sh := .cons a .nil
abbrev u2 (a b : Sh) : Sh := .cons a (u1 b)
abbrev u3 (a b c : Sh) : Sh := .cons a (u2 b c)
abbrev u4 (a b c d : Sh) : Sh := .cons a (u3 b c d)
abbrev u5 (a b c d e : Sh) : Sh := .cons a (u4 b c d e)
abbrev u6 (a b c d e f : Sh) : Sh := .cons a (u5 b c d e f)
abbrev u7 (a b c d e f g : Sh) : Sh := .cons a (u6 b c d e f g)
abbrev u8 (a b c d e f g h : Sh) : Sh := .cons a (u7 b c d e f g h)
abbrev u9 (a b c d e f g h i : Sh) : Sh := .cons a (u8 b c d e f g h i)
abbrev SN (l : List Nat) (s m : Sh) : jD := ⟨.normal, l, s, m⟩
abbrev SY (l : List Nat) (s m : Sh) : jD := ⟨.ret, l, s, m⟩
abbrev SX (k : Nat) (l : List Nat) (s m : Sh) : jD := ⟨.exit k, l, s, m⟩
end Go.Ab
