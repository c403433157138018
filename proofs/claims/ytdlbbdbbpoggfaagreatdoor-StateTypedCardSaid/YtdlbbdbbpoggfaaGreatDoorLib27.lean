import Derived.Test.YtdlbbdbbpoggfaaGreatDoorLib26
set_option linter.unusedVariables false
set_option linter.unusedSectionVars false
namespace Go.Ab
variable [cD]
variable {P : Program} {tab : TypeId → Option TI}
def aM (P : Program) (g : FuncId) (E : aG) : Prop := KZ E = true ∧ sY P g E
def Bb (P : Program) (tbl : FuncId → List aG) : Prop := ∀ g, ∀ E ∈ tbl g, aM P g E
theorem Bb.nil : Bb P (fun _ => []) := fun _ _ h => by cases h
theorem AllE.nil {g : FuncId} : ∀ E ∈ ([] : List aG), aM P g E := fun _ h => by cases h
theorem AllE.cons {g : FuncId} {E : aG} {l : List aG} (h : aM P g E) (hl : ∀ E ∈ l, aM P g E) : ∀ z ∈ E :: l, aM P g z := by
 intro z hE
 rcases yq1.1 hE with rfl | hE
 ·exact h
 ·exact hl _ hE
theorem Bb.cons {g : FuncId} {l : List aG} {rest : FuncId → List aG} (h : ∀ E ∈ l, aM P g E) (A : Bb P rest) : Bb P (fun f => bif Nat.beq f g then l else rest f) := by
 intro f E hE
 simp only at hE
 cases z : Nat.beq f g with
 | true =>
  rw [z] at hE
  obtain rfl := nb.1 z
  exact h E hE
 | false =>
  rw [z] at hE
  exact A f E hE
def Iv (tab : TypeId → Option TI) (tbl : FuncId → List aG) (loops : Nat → Option aL) (an : mR) (old : List (Option Bool)) (n : Nat) (bid : Nat) (c : Code) (L : aL) : Prop :=
 ∃ (live : List Nat) (B : eP L.heads → Option (eP L.heads ⊕ eP L.outs)), dW bid an.live = some live ∧ dN 0 live = true ∧ (∀ s, L.run s = aK B n s) ∧
  ∀ s, Dc (bI _) tab tbl loops an old c bid live L.heads L.outs s some = B s
def LT (tab : TypeId → Option TI) (tbl : FuncId → List aG) (loops : Nat → Option aL) (an : mR) (old : List (Option Bool)) (n : Nat) (c : Code) (l : Nat → Option aL) : Prop :=
 ∀ bid L, l bid = some L → ∀ c', dW bid (e8 c 0) = some c' → Iv tab tbl loops an old n bid c' L
section
variable {tbl : FuncId → List aG} {loops : Nat → Option aL} {an : mR} {old : List (Option Bool)} {n : Nat} {c : Code}
theorem LT.nil : LT tab tbl loops an old n c (fun _ => none) := fun _ _ h => by cases h
theorem LT.cons {z : Nat} {L : aL} {J : Code} {rest : Nat → Option aL} (M : dW z (e8 c 0) = some J) (h : Iv tab tbl loops an old n z J L) (K : LT tab tbl loops an old n c rest) :
  LT tab tbl loops an old n c (fun f => bif Nat.beq f z then some L else rest f) := by
 intro f O hL N A
 simp only at hL
 cases H : Nat.beq f z with
 | true =>
  rw [H] at hL
  obtain rfl := nb.1 H
  have := yb hL
  subst this
  rw [M] at A
  obtain rfl := yb A
  exact h
 | false =>
  rw [H] at hL
  exact K f O hL N A
theorem zP {α : Type} : ∀ {l : List (Nat × α)} {q : Nat × α}, dF (l.map (·.1)) = true → q ∈ l → dW q.1 l = some q.2
 | [], q, _, h => by cases h
 | p :: l, q, hn, h => by
  have z : (!(gT p.1 (l.map (·.1))) && dF (l.map (·.1))) = true := hn
  simp only [yc, yy] at z
  show (bif Nat.beq p.1 q.1 then some p.2 else dW q.1 l) = some q.2
  rcases yq1.1 h with rfl | h
  ·rw [ys3]; rfl
  ·have : Nat.beq p.1 q.1 = false := by
    cases A : Nat.beq p.1 q.1 with
    | true =>
     exfalso
     have hm : gT p.1 (l.map (·.1)) = true := oD.2 (by rw [nb.1 A]; exact List.mem_map_of_mem h)
     rw [hm] at z; cases z.1
    | false => rfl
   rw [this]
   exact zP z.2 h
theorem LT.ok (hn : dF ((e8 c 0).map (·.1)) = true) (h : LT tab tbl loops an old n c loops) : sH tab tbl loops an old n c 0 := fun q z L hL => h q.1 L hL q.2 (zP hn z)
theorem aM.of (hn : nI P = true) (hm : P.follows .mixedOrders = true) (ht : cF P tab) (hT : Bb P tbl) {f : FuncId} {fn : Func} (hf : P.funcs[f]? = some fn) (J : fn.body = some c) {E : aG}
  (H : NT fn c E = true) (A : dF ((e8 c 0).map (·.1)) = true) (z : ∀ d, e9 (fV E.a.msh d) = old) (hl : LT tab tbl loops an old n c loops)
  (h : ∀ a, Oa (bI (eP E.r)) tab tbl loops an fn E.a E.r a some = E.sh a) : aM P f E :=
 ⟨by simp only [NT, yc] at H; exact H.1.1, GO hn hm ht (fun g => yx.2 fun E hE => (hT g E hE).1) (fun g E hE => (hT g E hE).2) hf J H z (hl.ok A) h⟩
theorem aM.none {f : FuncId} {E : aG} (A : KZ E = true) (h : ∀ a, E.sh a = none) : aM P f E :=
 ⟨A, fun a b z => by rw [h] at z; cases z⟩
end
end Go.Ab
