import Derived.Test.YtdlbbdbbpoggfaaLib27
set_option linter.unusedVariables false
set_option linter.unusedSectionVars false
namespace Go.Ab
variable [b4]
variable {P : Program} {tab : TypeId → Option TI}
def aW (P : Program) (g : FuncId) (E : aC) : Prop := J5 E = true ∧ qS P g E
def q9 (P : Program) (tbl : FuncId → List aC) : Prop := ∀ g, ∀ E ∈ tbl g, aW P g E
theorem q9.nil : q9 P (fun _ => []) := fun _ _ h => by cases h
theorem AllE.nil {g : FuncId} : ∀ E ∈ ([] : List aC), aW P g E := fun _ h => by cases h
theorem AllE.cons {g : FuncId} {E : aC} {l : List aC} (h : aW P g E) (I : ∀ E ∈ l, aW P g E) : ∀ H ∈ E :: l, aW P g H := by
 intro H hE
 rcases yn1.1 hE with rfl | hE
 ·exact h
 ·exact I _ hE
theorem q9.cons {g : FuncId} {l : List aC} {rest : FuncId → List aC} (h : ∀ E ∈ l, aW P g E) (hr : q9 P rest) : q9 P (fun f => bif Nat.beq f g then l else rest f) := by
 intro f E hE
 simp only at hE
 cases H : Nat.beq f g with
 | true =>
  rw [H] at hE
  obtain rfl := nb.1 H
  exact h E hE
 | false =>
  rw [H] at hE
  exact hr f E hE
def JH (tab : TypeId → Option TI) (tbl : FuncId → List aC) (loops : Nat → Option aL) (an : lC) (old : List (Option Bool)) (n : Nat) (bid : Nat) (c : Code) (L : aL) : Prop :=
 ∃ (live : List Nat) (B : eO L.heads → Option (eO L.heads ⊕ eO L.outs)), eE bid an.live = some live ∧ dU 0 live = true ∧ (∀ s, L.run s = bL B n s) ∧
  ∀ s, Fg (aP _) tab tbl loops an old c bid live L.heads L.outs s some = B s
def LT (tab : TypeId → Option TI) (tbl : FuncId → List aC) (loops : Nat → Option aL) (an : lC) (old : List (Option Bool)) (n : Nat) (c : Code) (l : Nat → Option aL) : Prop :=
 ∀ bid L, l bid = some L → ∀ c', eE bid (fH c 0) = some c' → JH tab tbl loops an old n bid c' L
section
variable {tbl : FuncId → List aC} {loops : Nat → Option aL} {an : lC} {old : List (Option Bool)} {n : Nat} {c : Code}
theorem LT.nil : LT tab tbl loops an old n c (fun _ => none) := fun _ _ h => by cases h
theorem LT.cons {H : Nat} {L : aL} {K : Code} {rest : Nat → Option aL} (N : eE H (fH c 0) = some K) (h : JH tab tbl loops an old n H K L) (hr : LT tab tbl loops an old n c rest) :
  LT tab tbl loops an old n c (fun f => bif Nat.beq f H then some L else rest f) := by
 intro f O hL M I
 simp only at hL
 cases J : Nat.beq f H with
 | true =>
  rw [J] at hL
  obtain rfl := nb.1 J
  have := ya hL
  subst this
  rw [N] at I
  obtain rfl := ya I
  exact h
 | false =>
  rw [J] at hL
  exact hr f O hL M I
theorem AX {α : Type} : ∀ {l : List (Nat × α)} {q : Nat × α}, dQ (l.map (·.1)) = true → q ∈ l → eE q.1 l = some q.2
 | [], q, _, h => by cases h
 | p :: l, q, hn, h => by
  have H : (!(eZ p.1 (l.map (·.1))) && dQ (l.map (·.1))) = true := hn
  simp only [yb, yq] at H
  show (bif Nat.beq p.1 q.1 then some p.2 else eE q.1 l) = some q.2
  rcases yn1.1 h with rfl | h
  ·rw [yp3]; rfl
  ·have : Nat.beq p.1 q.1 = false := by
    cases I : Nat.beq p.1 q.1 with
    | true =>
     exfalso
     have hm : eZ p.1 (l.map (·.1)) = true := jW.2 (by rw [nb.1 I]; exact List.mem_map_of_mem h)
     rw [hm] at H; cases H.1
    | false => rfl
   rw [this]
   exact AX H.2 h
theorem LT.ok (hn : dQ ((fH c 0).map (·.1)) = true) (h : LT tab tbl loops an old n c loops) : qE tab tbl loops an old n c 0 := fun q H L hL => h q.1 L hL q.2 (AX hn H)
theorem aW.of (hn : nT P = true) (hm : P.follows .mixedOrders = true) (ht : bG P tab) (hT : q9 P tbl) {f : FuncId} {fn : Func} (M : P.funcs[f]? = some fn) (N : fn.body = some c) {E : aC}
  (J : Ol fn c E = true) (K : dQ ((fH c 0).map (·.1)) = true) (H : ∀ d, e9 (e8 E.a.msh d) = old) (O : LT tab tbl loops an old n c loops)
  (I : ∀ a, OP (aP (eO E.r)) tab tbl loops an fn E.a E.r a some = E.sh a) : aW P f E :=
 ⟨by simp only [Ol, yb] at J; exact J.1.1, H3 hn hm ht (fun g => yr1.2 fun E hE => (hT g E hE).1) (fun g E hE => (hT g E hE).2) M N J H (O.ok K) I⟩
theorem aW.none {f : FuncId} {E : aC} (I : J5 E = true) (h : ∀ a, E.sh a = none) : aW P f E :=
 ⟨I, fun a b H => by rw [h] at H; cases H⟩
end
end Go.Ab
