import Derived.Test.YtdlbbdbbpoggfaaGreatDoorLib32
set_option linter.unusedVariables false
set_option linter.unusedSectionVars false
namespace Go.Ab
variable [cD]
variable {P : Program} {tab : TypeId → Option TI}
def sI : Sh → List (Option Bool)
 | .cons a b => sI a ++ sI b
 | .bnone => [none]
 | .bts _ _ _ _ _ => [some false]
 | .bcells _ _ _ _ => [some true]
 | _ => []
theorem nU : ∀ (a b : aR), e9 (a ++ b) = e9 a ++ e9 b
 | [], _ => rfl
 | none :: r, b => congrArg (none :: ·) (nU r b)
 | some _ :: r, b => congrArg (_ :: ·) (nU r b)
theorem D4 : ∀ (s : Sh) (d : s.den), e9 (fV s d) = sI s := by
 intro s
 induction s with
 | cons a b z h => intro d; show e9 (fV a _ ++ fV b _) = _; rw [nU, z, h]; rfl
 | _ => intro d; rfl
noncomputable def F7 (f : Func) : Code := match f.body with | some c => c | none => .skip
noncomputable def Mz (b : Nat) (c : Code) : Code := match dW b (e8 c 0) with | some c => c | none => .skip
def MW (b : Nat) (an : mR) : List Nat := match dW b an.live with | some l => l | none => []
def Bi : List (Nat × aG) → FuncId → List aG
 | [] => fun _ => []
 | q :: l => fun f => bif Nat.beq f q.1 then q.2 :: Bi l f else Bi l f
def TL (P : Program) (l : List (Nat × aG)) : Prop := ∀ q ∈ l, aM P q.1 q.2
theorem TL.e : TL P [] := fun _ h => by cases h
theorem TL.k {g : Nat} {E : aG} {l : List (Nat × aG)} (h : aM P g E) (r : TL P l) : TL P ((g, E) :: l) := fun q z => by
 rcases yq1.1 z with rfl | z
 ·exact h
 ·exact r q z
theorem TL.ok : ∀ {l : List (Nat × aG)}, TL P l → Bb P (Bi l)
 | [], _, _, _, h => by cases h
 | q :: l, hl, f, E, h => by
  have A : TL P l := fun x hx => hl x (yk _ hx)
  simp only [Bi] at h
  cases z : Nat.beq f q.1 with
  | true =>
   rw [z] at h
   rcases yq1.1 h with rfl | h
   ·obtain rfl := nb.1 z; exact hl q yn
   ·exact A.ok f E h
  | false => rw [z] at h; exact A.ok f E h
section
variable {tbl : FuncId → List aG} {loops : Nat → Option aL} {an : mR} {old : List (Option Bool)} {n : Nat} {c : Code}
def LF (tab : TypeId → Option TI) (tbl : FuncId → List aG) (loops : Nat → Option aL) (an : mR) (old : List (Option Bool)) (n : Nat) (c : Code) (b : Nat) (L : aL) : Prop :=
 ∃ B : eP L.heads → Option (eP L.heads ⊕ eP L.outs), (∀ s, L.run s = aK B n s) ∧ ∀ s, Dc (bI _) tab tbl loops an old (Mz b c) b (MW b an) L.heads L.outs s some = B s
def LS (tab : TypeId → Option TI) (tbl : FuncId → List aG) (loops : Nat → Option aL) (an : mR) (old : List (Option Bool)) (n : Nat) (c : Code) (l : List (Nat × aL)) : Prop := ∀ q ∈ l, LF tab tbl loops an old n c q.1 q.2
theorem LS.e : LS tab tbl loops an old n c [] := fun _ h => by cases h
theorem LS.k {b : Nat} {L : aL} {l : List (Nat × aL)} {B : eP L.heads → Option (eP L.heads ⊕ eP L.outs)} (h : ∀ s, L.run s = aK B n s)
  (g : ∀ s, Dc (bI _) tab tbl loops an old (Mz b c) b (MW b an) L.heads L.outs s some = B s) (r : LS tab tbl loops an old n c l) : LS tab tbl loops an old n c ((b, L) :: l) := fun q z => by
 rcases yq1.1 z with rfl | z
 ·exact ⟨B, h, g⟩
 ·exact r q z
theorem zU {α : Type} : ∀ {l : List (Nat × α)} {b : Nat} {x : α}, dW b l = some x → (b, x) ∈ l
 | [], _, _, h => by cases h
 | p :: l, b, x, h => by
  have z : (bif Nat.beq p.1 b then some p.2 else dW b l) = some x := h
  cases A : Nat.beq p.1 b with
  | true => rw [A] at z; obtain rfl := nb.1 A; obtain rfl := yb z; exact yn
  | false => rw [A] at z; exact yk _ (zU z)
def LJ (an : mR) : List (Nat × aL) → Bool
 | [] => true
 | q :: l => (match dW q.1 an.live with | some l => dN 0 l | none => false) && LJ an l
theorem LS.lt : ∀ {l : List (Nat × aL)}, LJ an l = true → LS tab tbl loops an old n c l → LT tab tbl loops an old n c fun b => dW b l := by
 intro l z h b L hL c' H
 have hm := zU hL
 have K : ∀ {l : List (Nat × aL)}, LJ an l = true → ∀ q ∈ l, ∃ x, dW q.1 an.live = some x ∧ dN 0 x = true := by
  intro l
  induction l with
  | nil => intro _ q A; cases A
  | cons p l M =>
   intro z q A
   simp only [LJ, yc] at z
   rcases yq1.1 A with rfl | A
   ·cases J : dW q.1 an.live with
    | none => rw [J] at z; cases z.1
    | some x => rw [J] at z; exact ⟨x, rfl, z.1⟩
   ·exact M z.2 q A
 obtain ⟨x, hx, N⟩ := K z _ hm
 obtain ⟨B, h1, h2⟩ := h _ hm
 refine ⟨x, B, hx, N, h1, fun s => ?_⟩
 have := h2 s
 simp only [Mz, MW] at this
 rw [H, hx] at this
 exact this
end
def Oc (fn : Func) (an : mR) (E : aG) (ls : List (Nat × aL)) : Bool :=
 (match fn.body with | some c => NT fn c E && dF ((e8 c 0).map (·.1)) | none => false) && LJ an ls
structure QJ (P : Program) (tab : TypeId → Option TI) : Prop where
 hn : nI P = true
 hm : P.follows .mixedOrders = true
 ht : cF P tab
section
variable {fn : Func} {f : FuncId} {E : aG} {l : List (Nat × aG)}
theorem K4 {an : mR} {A : List (Nat × aL)} (h : Oc fn an E A = true) : fn.body = some (F7 fn) ∧ NT fn (F7 fn) E = true ∧ dF ((e8 (F7 fn) 0).map (·.1)) = true ∧ LJ an A = true := by
 simp only [Oc, yc] at h
 unfold F7
 cases z : fn.body with
 | none => rw [z] at h; cases h.1
 | some c =>
  rw [z] at h
  simp only [yc] at h
  exact ⟨rfl, h.1.1, h.1.2, h.2⟩
theorem aM.b (n : Nat) (H : QJ P tab) (fn : Func) (an : mR) (A : List (Nat × aL)) (hT : TL P l) (hl : LS tab (Bi l) (fun b => dW b A) an (sI E.a.msh) n (F7 fn) A)
  (hf : P.funcs[f]? = some fn) (J : Oc fn an E A = true) (z : ∀ a, Oa (bI (eP E.r)) tab (Bi l) (fun b => dW b A) an fn E.a E.r a some = E.sh a) : aM P f E :=
 have h := K4 J
 .of H.hn H.hm H.ht hT.ok hf h.1 h.2.1 h.2.2.1 (fun _ => D4 _ _) (hl.lt h.2.2.2) z
theorem aM.bS (n : Nat) (H : QJ P tab) (fn : Func) (an : mR) (A : List (Nat × aL)) (hT : TL P l) (hl : LS tab (Bi l) (fun b => dW b A) an (sI E.a.msh) n (F7 fn) A)
  (hf : P.funcs[f]? = some fn) (J : Oc fn an E A = true) (z : ∀ a, KC (bI (eP E.r)) tab (Bi l) (fun b => dW b A) an fn (sI E.a.msh).length E.a E.r a some = E.sh a) : aM P f E :=
 have h := K4 J
 .ofS H.hn H.hm H.ht hT.ok hf h.1 h.2.1 h.2.2.1 (fun _ => D4 _ _) (hl.lt h.2.2.2) z
end
abbrev u1 (a : Sh) : Sh := .cons a .nil
abbrev u2 (a b : Sh) : Sh := .cons a (u1 b)
abbrev u3 (a b c : Sh) : Sh := .cons a (u2 b c)
abbrev u4 (a b c d : Sh) : Sh := .cons a (u3 b c d)
abbrev u5 (a b c d e : Sh) : Sh := .cons a (u4 b c d e)
abbrev u6 (a b c d e f : Sh) : Sh := .cons a (u5 b c d e f)
abbrev u7 (a b c d e f g : Sh) : Sh := .cons a (u6 b c d e f g)
abbrev u8 (a b c d e f g h : Sh) : Sh := .cons a (u7 b c d e f g h)
abbrev u9 (a b c d e f g h i : Sh) : Sh := .cons a (u8 b c d e f g h i)
abbrev SN (l : List Nat) (s m : Sh) : kS := ⟨.normal, l, s, m⟩
abbrev SY (l : List Nat) (s m : Sh) : kS := ⟨.ret, l, s, m⟩
abbrev SX (k : Nat) (l : List Nat) (s m : Sh) : kS := ⟨.exit k, l, s, m⟩
end Go.Ab
