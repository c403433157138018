import Derived.Test.YtdlbbdbbpoggfaaGreatDoorLib32
set_option linter.unusedVariables false
set_option linter.unusedSectionVars false
namespace Go.Ab
variable [cD]
variable {P : Program} {tab : TypeId → Option TI}
def sG : Sh → List (Option Bool)
 | .cons a b => sG a ++ sG b
 | .bnone => [none]
 | .bts _ _ _ _ _ => [some false]
 | .bcells _ _ _ _ => [some true]
 | _ => []
theorem nR : ∀ (a b : aR), eX (a ++ b) = eX a ++ eX b
 | [], _ => rfl
 | none :: r, b => congrArg (none :: ·) (nR r b)
 | some _ :: r, b => congrArg (_ :: ·) (nR r b)
theorem C1 : ∀ (s : Sh) (d : s.den), eX (fV s d) = sG s := by
 intro s
 induction s with
 | cons a b h z => intro d; show eX (fV a _ ++ fV b _) = _; rw [nR, h, z]; rfl
 | _ => intro d; rfl
noncomputable def F6 (f : Func) : Code := match f.body with | some c => c | none => .skip
noncomputable def Ni (b : Nat) (c : Code) : Code := match dU b (fD c 0) with | some c => c | none => .skip
def NK (b : Nat) (an : mQ) : List Nat := match dU b an.live with | some l => l | none => []
def Bf : List (Nat × aG) → FuncId → List aG
 | [] => fun _ => []
 | q :: l => fun f => bif Nat.beq f q.1 then q.2 :: Bf l f else Bf l f
def TL (P : Program) (l : List (Nat × aG)) : Prop := ∀ q ∈ l, aM P q.1 q.2
theorem TL.e : TL P [] := fun _ h => by cases h
theorem TL.k {g : Nat} {E : aG} {l : List (Nat × aG)} (h : aM P g E) (r : TL P l) : TL P ((g, E) :: l) := fun q z => by
 rcases yq1.1 z with rfl | z
 ·exact h
 ·exact r q z
theorem TL.ok : ∀ {l : List (Nat × aG)}, TL P l → Ba P (Bf l)
 | [], _, _, _, h => by cases h
 | q :: l, hl, f, E, h => by
  have A : TL P l := fun x hx => hl x (yk _ hx)
  simp only [Bf] at h
  cases z : Nat.beq f q.1 with
  | true =>
   rw [z] at h
   rcases yq1.1 h with rfl | h
   ·obtain rfl := nb.1 z; exact hl q yn
   ·exact A.ok f E h
  | false => rw [z] at h; exact A.ok f E h
section
variable {tbl : FuncId → List aG} {loops : Nat → Option aK} {an : mQ} {old : List (Option Bool)} {n : Nat} {c : Code}
def LF (tab : TypeId → Option TI) (tbl : FuncId → List aG) (loops : Nat → Option aK) (an : mQ) (old : List (Option Bool)) (n : Nat) (c : Code) (b : Nat) (L : aK) : Prop :=
 ∃ B : eP L.heads → Option (eP L.heads ⊕ eP L.outs), (∀ s, L.run s = aL B n s) ∧ ∀ s, CC (bI _) tab tbl loops an old (Ni b c) b (NK b an) L.heads L.outs s some = B s
def LS (tab : TypeId → Option TI) (tbl : FuncId → List aG) (loops : Nat → Option aK) (an : mQ) (old : List (Option Bool)) (n : Nat) (c : Code) (l : List (Nat × aK)) : Prop := ∀ q ∈ l, LF tab tbl loops an old n c q.1 q.2
theorem LS.e : LS tab tbl loops an old n c [] := fun _ h => by cases h
theorem LS.k {b : Nat} {L : aK} {l : List (Nat × aK)} {B : eP L.heads → Option (eP L.heads ⊕ eP L.outs)} (h : ∀ s, L.run s = aL B n s)
  (g : ∀ s, CC (bI _) tab tbl loops an old (Ni b c) b (NK b an) L.heads L.outs s some = B s) (r : LS tab tbl loops an old n c l) : LS tab tbl loops an old n c ((b, L) :: l) := fun q z => by
 rcases yq1.1 z with rfl | z
 ·exact ⟨B, h, g⟩
 ·exact r q z
theorem zY {α : Type} : ∀ {l : List (Nat × α)} {b : Nat} {x : α}, dU b l = some x → (b, x) ∈ l
 | [], _, _, h => by cases h
 | p :: l, b, x, h => by
  have z : (bif Nat.beq p.1 b then some p.2 else dU b l) = some x := h
  cases A : Nat.beq p.1 b with
  | true => rw [A] at z; obtain rfl := nb.1 A; obtain rfl := yb z; exact yn
  | false => rw [A] at z; exact yk _ (zY z)
def Mc (an : mQ) : List (Nat × aK) → Bool
 | [] => true
 | q :: l => (match dU q.1 an.live with | some l => dM 0 l | none => false) && Mc an l
theorem LS.lt : ∀ {l : List (Nat × aK)}, Mc an l = true → LS tab tbl loops an old n c l → LT tab tbl loops an old n c fun b => dU b l := by
 intro l z h b L hL c' H
 have hm := zY hL
 have N : ∀ {l : List (Nat × aK)}, Mc an l = true → ∀ q ∈ l, ∃ x, dU q.1 an.live = some x ∧ dM 0 x = true := by
  intro l
  induction l with
  | nil => intro _ q A; cases A
  | cons p l M =>
   intro z q A
   simp only [Mc, yc] at z
   rcases yq1.1 A with rfl | A
   ·cases J : dU q.1 an.live with
    | none => rw [J] at z; cases z.1
    | some x => rw [J] at z; exact ⟨x, rfl, z.1⟩
   ·exact M z.2 q A
 obtain ⟨x, hx, K⟩ := N z _ hm
 obtain ⟨B, h1, h2⟩ := h _ hm
 refine ⟨x, B, hx, K, h1, fun s => ?_⟩
 have := h2 s
 simp only [Ni, NK] at this
 rw [H, hx] at this
 exact this
end
def On (fn : Func) (an : mQ) (E : aG) (ls : List (Nat × aK)) : Bool :=
 (match fn.body with | some c => NR fn c E && dB ((fD c 0).map (·.1)) | none => false) && Mc an ls
structure QF (P : Program) (tab : TypeId → Option TI) : Prop where
 hn : nE P = true
 hm : P.follows .mixedOrders = true
 ht : cF P tab
section
variable {fn : Func} {f : FuncId} {E : aG} {l : List (Nat × aG)}
theorem KH {an : mQ} {A : List (Nat × aK)} (h : On fn an E A = true) : fn.body = some (F6 fn) ∧ NR fn (F6 fn) E = true ∧ dB ((fD (F6 fn) 0).map (·.1)) = true ∧ Mc an A = true := by
 simp only [On, yc] at h
 unfold F6
 cases z : fn.body with
 | none => rw [z] at h; cases h.1
 | some c =>
  rw [z] at h
  simp only [yc] at h
  exact ⟨rfl, h.1.1, h.1.2, h.2⟩
theorem aM.b (n : Nat) (H : QF P tab) (fn : Func) (an : mQ) (A : List (Nat × aK)) (hT : TL P l) (hl : LS tab (Bf l) (fun b => dU b A) an (sG E.a.msh) n (F6 fn) A)
  (hf : P.funcs[f]? = some fn) (J : On fn an E A = true) (z : ∀ a, OH (bI (eP E.r)) tab (Bf l) (fun b => dU b A) an fn E.a E.r a some = E.sh a) : aM P f E :=
 have h := KH J
 .of H.hn H.hm H.ht hT.ok hf h.1 h.2.1 h.2.2.1 (fun _ => C1 _ _) (hl.lt h.2.2.2) z
theorem aM.bS (n : Nat) (H : QF P tab) (fn : Func) (an : mQ) (A : List (Nat × aK)) (hT : TL P l) (hl : LS tab (Bf l) (fun b => dU b A) an (sG E.a.msh) n (F6 fn) A)
  (hf : P.funcs[f]? = some fn) (J : On fn an E A = true) (z : ∀ a, K1 (bI (eP E.r)) tab (Bf l) (fun b => dU b A) an fn (sG E.a.msh).length E.a E.r a some = E.sh a) : aM P f E :=
 have h := KH J
 .ofS H.hn H.hm H.ht hT.ok hf h.1 h.2.1 h.2.2.1 (fun _ => C1 _ _) (hl.lt h.2.2.2) z
end
abbrev u1 (a : Sh) : Sh := .cons a .nil
abbrev u2 (a b : Sh) : Sh := .cons a (u1 b)
abbrev u3 (a b c : Sh) : Sh := .cons a (u2 b c)
abbrev u4 (a b c d : Sh) : Sh := .cons a (u3 b c d)
abbrev u5 (a b c d e : Sh) : Sh := .cons a (u4 b c d e)
abbrev u6 (a b c d e f : Sh) : Sh := .cons a (u5 b c d e f)
abbrev u7 (a b c d e f g : Sh) : Sh := .cons a (u6 b c d e f g)
abbrev u8 (a b c d e f g h : Sh) : Sh := .cons a (u7 b c d e f g h)
abbrev u9 (a b c d e f g h i : Sh) : Sh := .cons a (u8 b c d e f g h i)
abbrev SN (l : List Nat) (s m : Sh) : kX := ⟨.normal, l, s, m⟩
abbrev SY (l : List Nat) (s m : Sh) : kX := ⟨.ret, l, s, m⟩
abbrev SX (k : Nat) (l : List Nat) (s m : Sh) : kX := ⟨.exit k, l, s, m⟩
end Go.Ab
