import Derived.Test.YtmoldheenagboaaLib26
set_option linter.unusedVariables false
set_option linter.unusedSectionVars false
namespace Go.Ab
variable [b8]
variable {P : Program} {tab : TypeId → Option TI}
def cE (P : Program) (g : FuncId) (E : aD) : Prop := FU E = true ∧ nQ P g E
def aE (P : Program) (tbl : FuncId → List aD) : Prop := ∀ g, ∀ E ∈ tbl g, cE P g E
theorem aE.nil : aE P (fun _ => []) := fun _ _ h => by cases h
theorem AllE.nil {g : FuncId} : ∀ E ∈ ([] : List aD), cE P g E := fun _ h => by cases h
theorem AllE.cons {g : FuncId} {E : aD} {l : List aD} (h : cE P g E) (J : ∀ E ∈ l, cE P g E) : ∀ H ∈ E :: l, cE P g H := by
 intro H z
 rcases yf1.1 z with rfl | z
 ·exact h
 ·exact J _ z
theorem aE.cons {g : FuncId} {l : List aD} {rest : FuncId → List aD} (h : ∀ E ∈ l, cE P g E) (J : aE P rest) : aE P (fun f => bif Nat.beq f g then l else rest f) := by
 intro f E z
 simp only at z
 cases H : Nat.beq f g with
 | true =>
  rw [H] at z
  obtain rfl := nb.1 H
  exact h E z
 | false =>
  rw [H] at z
  exact J f E z
def aZ (tab : TypeId → Option TI) (tbl : FuncId → List aD) (loops : Nat → Option aH) (an : dJ) (old : List (Option Bool)) (n : Nat) (bid : Nat) (c : Code) (L : aH) : Prop :=
 ∃ (live : List Nat) (B : eU L.heads → Option (eU L.heads ⊕ eU L.outs)), bR bid an.live = some live ∧ dP 0 live = true ∧ (∀ s, L.run s = bI B n s) ∧
  ∀ s, bU (aL _) tab tbl loops an old c bid live L.heads L.outs s some = B s
def LT (tab : TypeId → Option TI) (tbl : FuncId → List aD) (loops : Nat → Option aH) (an : dJ) (old : List (Option Bool)) (n : Nat) (c : Code) (l : Nat → Option aH) : Prop :=
 ∀ bid L, l bid = some L → ∀ c', bR bid (aU c 0) = some c' → aZ tab tbl loops an old n bid c' L
section
variable {tbl : FuncId → List aD} {loops : Nat → Option aH} {an : dJ} {old : List (Option Bool)} {n : Nat} {c : Code}
theorem LT.nil : LT tab tbl loops an old n c (fun _ => none) := fun _ _ h => by cases h
theorem LT.cons {z : Nat} {L : aH} {N : Code} {rest : Nat → Option aH} (V : bR z (aU c 0) = some N) (h : aZ tab tbl loops an old n z N L) (O : LT tab tbl loops an old n c rest) :
  LT tab tbl loops an old n c (fun f => bif Nat.beq f z then some L else rest f) := by
 intro f U J W H
 simp only at J
 cases K : Nat.beq f z with
 | true =>
  rw [K] at J
  obtain rfl := nb.1 K
  have := ya J
  subst this
  rw [V] at H
  obtain rfl := ya H
  exact h
 | false =>
  rw [K] at J
  exact O f U J W H
theorem wL {α : Type} : ∀ {l : List (Nat × α)} {q : Nat × α}, cW (l.map (·.1)) = true → q ∈ l → bR q.1 l = some q.2
 | [], q, _, h => by cases h
 | p :: l, q, H, h => by
  have z : (!(f7 p.1 (l.map (·.1))) && cW (l.map (·.1))) = true := H
  simp only [yc, yz] at z
  show (bif Nat.beq p.1 q.1 then some p.2 else bR q.1 l) = some q.2
  rcases yf1.1 h with rfl | h
  ·rw [ym3]; rfl
  ·have : Nat.beq p.1 q.1 = false := by
    cases J : Nat.beq p.1 q.1 with
    | true =>
     exfalso
     have K : f7 p.1 (l.map (·.1)) = true := m5.2 (by rw [nb.1 J]; exact List.mem_map_of_mem h)
     rw [K] at z; cases z.1
    | false => rfl
   rw [this]
   exact wL z.2 h
theorem LT.ok (z : cW ((aU c 0).map (·.1)) = true) (h : LT tab tbl loops an old n c loops) : nY tab tbl loops an old n c 0 := fun q H L J => h q.1 L J q.2 (wL z H)
theorem cE.of (U : n8 P = true) (hm : P.follows .mixedOrders = true) (V : b9 P tab) (O : aE P tbl) {f : FuncId} {fn : Func} (Z : P.funcs[f]? = some fn) (Y : fn.body = some c) {E : aD}
  (N : L0 fn c E = true) (J : cW ((aU c 0).map (·.1)) = true) (H : ∀ d, gO (eH E.a.msh d) = old) (W : LT tab tbl loops an old n c loops)
  (z : ∀ a, Je (aL (eU E.r)) tab tbl loops an fn E.a E.r a some = E.sh a) : cE P f E :=
 ⟨by simp only [L0, yc] at N; exact N.1.1, Ep U hm V (fun g => yi2.2 fun E K => (O g E K).1) (fun g E K => (O g E K).2) Z Y N H (W.ok J) z⟩
theorem cE.none {f : FuncId} {E : aD} (H : FU E = true) (h : ∀ a, E.sh a = none) : cE P f E :=
 ⟨H, fun a b z => by rw [h] at z; cases z⟩
end
end Go.Ab
