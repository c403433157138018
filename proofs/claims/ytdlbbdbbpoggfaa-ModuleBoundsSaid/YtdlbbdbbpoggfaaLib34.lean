import Derived.Test.YtdlbbdbbpoggfaaLib33
set_option linter.unusedVariables false
set_option linter.unusedSectionVars false
namespace Go.Ab
variable [b4]
variable {P : Program} {tab : TypeId → Option TI}
def wR : Sh → List (Option Bool)
 | .cons a b => wR a ++ wR b
 | .bnone => [none]
 | .bts _ _ _ _ _ => [some false]
 | .bcells _ _ _ _ => [some true]
 | .bos _ _ _ _ => [some false]
 | _ => []
theorem oH : ∀ (a b : aD), e9 (a ++ b) = e9 a ++ e9 b
 | [], _ => rfl
 | none :: r, b => congrArg (none :: ·) (oH r b)
 | some _ :: r, b => congrArg (_ :: ·) (oH r b)
theorem Ew : ∀ (s : Sh) (d : s.den), e9 (e8 s d) = wR s := by
 intro s
 induction s with
 | cons a b H I => intro d; show e9 (e8 a _ ++ e8 b _) = _; rw [oH, H, I]; rfl
 | _ => intro d; rfl
noncomputable def Gn (f : Func) : Code := match f.body with | some c => c | none => .skip
noncomputable def NU (b : Nat) (c : Code) : Code := match eE b (fH c 0) with | some c => c | none => .skip
def Od (b : Nat) (an : lC) : List Nat := match eE b an.live with | some l => l | none => []
def Cz : List (Nat × aC) → FuncId → List aC
 | [] => fun _ => []
 | q :: l => fun f => bif Nat.beq f q.1 then q.2 :: Cz l f else Cz l f
def TL (P : Program) (l : List (Nat × aC)) : Prop := ∀ q ∈ l, aW P q.1 q.2
theorem TL.e : TL P [] := fun _ h => by cases h
theorem TL.k {g : Nat} {E : aC} {l : List (Nat × aC)} (h : aW P g E) (r : TL P l) : TL P ((g, E) :: l) := fun q H => by
 rcases yn1.1 H with rfl | H
 ·exact h
 ·exact r q H
theorem TL.ok : ∀ {l : List (Nat × aC)}, TL P l → q9 P (Cz l)
 | [], _, _, _, h => by cases h
 | q :: l, I, f, E, h => by
  have hr : TL P l := fun x J => I x (yh _ J)
  simp only [Cz] at h
  cases H : Nat.beq f q.1 with
  | true =>
   rw [H] at h
   rcases yn1.1 h with rfl | h
   ·obtain rfl := nb.1 H; exact I q ym
   ·exact hr.ok f E h
  | false => rw [H] at h; exact hr.ok f E h
section
variable {tbl : FuncId → List aC} {loops : Nat → Option aL} {an : lC} {old : List (Option Bool)} {n : Nat} {c : Code}
def LF (tab : TypeId → Option TI) (tbl : FuncId → List aC) (loops : Nat → Option aL) (an : lC) (old : List (Option Bool)) (n : Nat) (c : Code) (b : Nat) (L : aL) : Prop :=
 ∃ B : eO L.heads → Option (eO L.heads ⊕ eO L.outs), (∀ s, L.run s = bL B n s) ∧ ∀ s, Fg (aP _) tab tbl loops an old (NU b c) b (Od b an) L.heads L.outs s some = B s
def LS (tab : TypeId → Option TI) (tbl : FuncId → List aC) (loops : Nat → Option aL) (an : lC) (old : List (Option Bool)) (n : Nat) (c : Code) (l : List (Nat × aL)) : Prop := ∀ q ∈ l, LF tab tbl loops an old n c q.1 q.2
theorem LS.e : LS tab tbl loops an old n c [] := fun _ h => by cases h
theorem LS.k {b : Nat} {L : aL} {l : List (Nat × aL)} {B : eO L.heads → Option (eO L.heads ⊕ eO L.outs)} (h : ∀ s, L.run s = bL B n s)
  (g : ∀ s, Fg (aP _) tab tbl loops an old (NU b c) b (Od b an) L.heads L.outs s some = B s) (r : LS tab tbl loops an old n c l) : LS tab tbl loops an old n c ((b, L) :: l) := fun q H => by
 rcases yn1.1 H with rfl | H
 ·exact ⟨B, h, g⟩
 ·exact r q H
theorem Ax {α : Type} : ∀ {l : List (Nat × α)} {b : Nat} {x : α}, eE b l = some x → (b, x) ∈ l
 | [], _, _, h => by cases h
 | p :: l, b, x, h => by
  have H : (bif Nat.beq p.1 b then some p.2 else eE b l) = some x := h
  cases I : Nat.beq p.1 b with
  | true => rw [I] at H; obtain rfl := nb.1 I; obtain rfl := ya H; exact ym
  | false => rw [I] at H; exact yh _ (Ax H)
def MW (an : lC) : List (Nat × aL) → Bool
 | [] => true
 | q :: l => (match eE q.1 an.live with | some l => dU 0 l | none => false) && MW an l
theorem LS.lt : ∀ {l : List (Nat × aL)}, MW an l = true → LS tab tbl loops an old n c l → LT tab tbl loops an old n c fun b => eE b l := by
 intro l H h b L hL c' J
 have hm := Ax hL
 have V : ∀ {l : List (Nat × aL)}, MW an l = true → ∀ q ∈ l, ∃ x, eE q.1 an.live = some x ∧ dU 0 x = true := by
  intro l
  induction l with
  | nil => intro _ q I; cases I
  | cons p l W =>
   intro H q I
   simp only [MW, yb] at H
   rcases yn1.1 I with rfl | I
   ·cases K : eE q.1 an.live with
    | none => rw [K] at H; cases H.1
    | some x => rw [K] at H; exact ⟨x, rfl, H.1⟩
   ·exact W H.2 q I
 obtain ⟨x, M, U⟩ := V H _ hm
 obtain ⟨B, N, O⟩ := h _ hm
 refine ⟨x, B, M, U, N, fun s => ?_⟩
 have := O s
 simp only [NU, Od] at this
 rw [J, M] at this
 exact this
end
def OM (fn : Func) (an : lC) (E : aC) (ls : List (Nat × aL)) : Bool :=
 (match fn.body with | some c => Ol fn c E && dQ ((fH c 0).map (·.1)) | none => false) && MW an ls
structure P6 (P : Program) (tab : TypeId → Option TI) : Prop where
 hn : nT P = true
 hm : P.follows .mixedOrders = true
 ht : bG P tab
section
variable {fn : Func} {f : FuncId} {E : aC} {l : List (Nat × aC)}
theorem LA {an : lC} {ls : List (Nat × aL)} (H : OM fn an E ls = true) : fn.body = some (Gn fn) ∧ Ol fn (Gn fn) E = true ∧ dQ ((fH (Gn fn) 0).map (·.1)) = true ∧ MW an ls = true := by
 simp only [OM, yb] at H
 unfold Gn
 cases I : fn.body with
 | none => rw [I] at H; cases H.1
 | some c =>
  rw [I] at H
  simp only [yb] at H
  exact ⟨rfl, H.1.1, H.1.2, H.2⟩
theorem aW.b (n : Nat) (I : P6 P tab) (fn : Func) (an : lC) (ls : List (Nat × aL)) (hT : TL P l) (K : LS tab (Cz l) (fun b => eE b ls) an (wR E.a.msh) n (Gn fn) ls)
  (J : P.funcs[f]? = some fn) (M : OM fn an E ls = true) (H : ∀ a, OP (aP (eO E.r)) tab (Cz l) (fun b => eE b ls) an fn E.a E.r a some = E.sh a) : aW P f E :=
 have h := LA M
 .of I.hn I.hm I.ht hT.ok J h.1 h.2.1 h.2.2.1 (fun _ => Ew _ _) (K.lt h.2.2.2) H
theorem aW.bS (n : Nat) (I : P6 P tab) (fn : Func) (an : lC) (ls : List (Nat × aL)) (hT : TL P l) (K : LS tab (Cz l) (fun b => eE b ls) an (wR E.a.msh) n (Gn fn) ls)
  (J : P.funcs[f]? = some fn) (M : OM fn an E ls = true) (H : ∀ a, LV (aP (eO E.r)) tab (Cz l) (fun b => eE b ls) an fn (wR E.a.msh).length E.a E.r a some = E.sh a) : aW P f E :=
 have h := LA M
 .ofS I.hn I.hm I.ht hT.ok J h.1 h.2.1 h.2.2.1 (fun _ => Ew _ _) (K.lt h.2.2.2) H
end
abbrev u1 (a : Sh) : Sh := .cons a .nil
abbrev u2 (a b : Sh) : Sh := .cons a (u1 b)
abbrev u3 (a b c : Sh) : Sh := .cons a (u2 b c)
abbrev u4 (a b c d : Sh) : Sh := .cons a (u3 b c d)
abbrev u5 (a b c d e : Sh) : Sh := .cons a (u4 b c d e)
abbrev u6 (a b c d e f : Sh) : Sh := .cons a (u5 b c d e f)
abbrev u7 (a b c d e f g : Sh) : Sh := .cons a (u6 b c d e f g)
abbrev u8 (a b c d e f g h : Sh) : Sh := .cons a (u7 b c d e f g h)
abbrev u9 (a b c d e f g h i : Sh) : Sh := .cons a (u8 b c d e f g h i)
abbrev SN (l : List Nat) (s m : Sh) : jD := ⟨.normal, l, s, m⟩
abbrev SY (l : List Nat) (s m : Sh) : jD := ⟨.ret, l, s, m⟩
abbrev SX (k : Nat) (l : List Nat) (s m : Sh) : jD := ⟨.exit k, l, s, m⟩
end Go.Ab
