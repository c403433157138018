import Derived.Test.YtdlbbdbbpoggfaaLib27
set_option linter.unusedVariables false
set_option linter.unusedSectionVars false
namespace Go.Ab
variable [b4]
variable {P : Program} {tab : TypeId → Option TI}
def aW (P : Program) (g : FuncId) (E : aC) : Prop := J7 E = true ∧ pL P g E
def rH (P : Program) (tbl : FuncId → List aC) : Prop := ∀ g, ∀ E ∈ tbl g, aW P g E
theorem rH.nil : rH P (fun _ => []) := fun _ _ h => by cases h
theorem AllE.nil {g : FuncId} : ∀ E ∈ ([] : List aC), aW P g E := fun _ h => by cases h
theorem AllE.cons {g : FuncId} {E : aC} {l : List aC} (h : aW P g E) (I : ∀ E ∈ l, aW P g E) : ∀ H ∈ E :: l, aW P g H := by
 intro H hE
 rcases yn1.1 hE with rfl | hE
 ·exact h
 ·exact I _ hE
theorem rH.cons {g : FuncId} {l : List aC} {rest : FuncId → List aC} (h : ∀ E ∈ l, aW P g E) (hr : rH P rest) : rH P (fun f => bif Nat.beq f g then l else rest f) := by
 intro f E hE
 simp only at hE
 cases H : Nat.beq f g with
 | true =>
  rw [H] at hE
  obtain rfl := nb.1 H
  exact h E hE
 | false =>
  rw [H] at hE
  exact hr f E hE
def JV (tab : TypeId → Option TI) (tbl : FuncId → List aC) (loops : Nat → Option aL) (an : lA) (old : List (Option Bool)) (n : Nat) (bid : Nat) (c : Code) (L : aL) : Prop :=
 ∃ (live : List Nat) (B : eN L.heads → Option (eN L.heads ⊕ eN L.outs)), eF bid an.live = some live ∧ dS 0 live = true ∧ (∀ s, L.run s = bL B n s) ∧
  ∀ s, FO (aP _) tab tbl loops an old c bid live L.heads L.outs s some = B s
def LT (tab : TypeId → Option TI) (tbl : FuncId → List aC) (loops : Nat → Option aL) (an : lA) (old : List (Option Bool)) (n : Nat) (c : Code) (l : Nat → Option aL) : Prop :=
 ∀ bid L, l bid = some L → ∀ c', eF bid (fK c 0) = some c' → JV tab tbl loops an old n bid c' L
section
variable {tbl : FuncId → List aC} {loops : Nat → Option aL} {an : lA} {old : List (Option Bool)} {n : Nat} {c : Code}
theorem LT.nil : LT tab tbl loops an old n c (fun _ => none) := fun _ _ h => by cases h
theorem LT.cons {H : Nat} {L : aL} {K : Code} {rest : Nat → Option aL} (O : eF H (fK c 0) = some K) (h : JV tab tbl loops an old n H K L) (hr : LT tab tbl loops an old n c rest) :
  LT tab tbl loops an old n c (fun f => bif Nat.beq f H then some L else rest f) := by
 intro f N hL M I
 simp only at hL
 cases J : Nat.beq f H with
 | true =>
  rw [J] at hL
  obtain rfl := nb.1 J
  have := ya hL
  subst this
  rw [O] at I
  obtain rfl := ya I
  exact h
 | false =>
  rw [J] at hL
  exact hr f N hL M I
theorem z8 {α : Type} : ∀ {l : List (Nat × α)} {q : Nat × α}, dR (l.map (·.1)) = true → q ∈ l → eF q.1 l = some q.2
 | [], q, _, h => by cases h
 | p :: l, q, hn, h => by
  have H : (!(eZ p.1 (l.map (·.1))) && dR (l.map (·.1))) = true := hn
  simp only [yb, yq] at H
  show (bif Nat.beq p.1 q.1 then some p.2 else eF q.1 l) = some q.2
  rcases yn1.1 h with rfl | h
  ·rw [yp3]; rfl
  ·have : Nat.beq p.1 q.1 = false := by
    cases I : Nat.beq p.1 q.1 with
    | true =>
     exfalso
     have hm : eZ p.1 (l.map (·.1)) = true := kA.2 (by rw [nb.1 I]; exact List.mem_map_of_mem h)
     rw [hm] at H; cases H.1
    | false => rfl
   rw [this]
   exact z8 H.2 h
theorem LT.ok (hn : dR ((fK c 0).map (·.1)) = true) (h : LT tab tbl loops an old n c loops) : pN tab tbl loops an old n c 0 := fun q H L hL => h q.1 L hL q.2 (z8 hn H)
theorem aW.of (hn : m9 P = true) (hm : P.follows .mixedOrders = true) (ht : bI P tab) (hT : rH P tbl) {f : FuncId} {fn : Func} (O : P.funcs[f]? = some fn) (M : fn.body = some c) {E : aC}
  (J : Om fn c E = true) (K : dR ((fK c 0).map (·.1)) = true) (I : ∀ d, e7 (e8 E.a.msh d) = old) (N : LT tab tbl loops an old n c loops)
  (H : ∀ a, OG (aP (eN E.r)) tab tbl loops an fn E.a E.r a some = E.sh a) : aW P f E :=
 ⟨by simp only [Om, yb] at J; exact J.1.1, Im hn hm ht (fun g => yr1.2 fun E hE => (hT g E hE).1) (fun g E hE => (hT g E hE).2) O M J I (N.ok K) H⟩
theorem aW.none {f : FuncId} {E : aC} (I : J7 E = true) (h : ∀ a, E.sh a = none) : aW P f E :=
 ⟨I, fun a b H => by rw [h] at H; cases H⟩
end
end Go.Ab
