import Derived.Test.YtdlbbdbbpoggfaaGreatDoorLib26
set_option linter.unusedVariables false
set_option linter.unusedSectionVars false
namespace Go.Ab
variable [cD]
variable {P : Program} {tab : TypeId → Option TI}
def aM (P : Program) (g : FuncId) (E : aG) : Prop := K3 E = true ∧ sH P g E
def Ba (P : Program) (tbl : FuncId → List aG) : Prop := ∀ g, ∀ E ∈ tbl g, aM P g E
theorem Ba.nil : Ba P (fun _ => []) := fun _ _ h => by cases h
theorem AllE.nil {g : FuncId} : ∀ E ∈ ([] : List aG), aM P g E := fun _ h => by cases h
theorem AllE.cons {g : FuncId} {E : aG} {l : List aG} (h : aM P g E) (hl : ∀ E ∈ l, aM P g E) : ∀ z ∈ E :: l, aM P g z := by
 intro z hE
 rcases yq1.1 hE with rfl | hE
 ·exact h
 ·exact hl _ hE
theorem Ba.cons {g : FuncId} {l : List aG} {rest : FuncId → List aG} (h : ∀ E ∈ l, aM P g E) (A : Ba P rest) : Ba P (fun f => bif Nat.beq f g then l else rest f) := by
 intro f E hE
 simp only at hE
 cases z : Nat.beq f g with
 | true =>
  rw [z] at hE
  obtain rfl := nb.1 z
  exact h E hE
 | false =>
  rw [z] at hE
  exact A f E hE
def Hw (tab : TypeId → Option TI) (tbl : FuncId → List aG) (loops : Nat → Option aK) (an : mQ) (old : List (Option Bool)) (n : Nat) (bid : Nat) (c : Code) (L : aK) : Prop :=
 ∃ (live : List Nat) (B : eP L.heads → Option (eP L.heads ⊕ eP L.outs)), dU bid an.live = some live ∧ dM 0 live = true ∧ (∀ s, L.run s = aL B n s) ∧
  ∀ s, CC (bI _) tab tbl loops an old c bid live L.heads L.outs s some = B s
def LT (tab : TypeId → Option TI) (tbl : FuncId → List aG) (loops : Nat → Option aK) (an : mQ) (old : List (Option Bool)) (n : Nat) (c : Code) (l : Nat → Option aK) : Prop :=
 ∀ bid L, l bid = some L → ∀ c', dU bid (fD c 0) = some c' → Hw tab tbl loops an old n bid c' L
section
variable {tbl : FuncId → List aG} {loops : Nat → Option aK} {an : mQ} {old : List (Option Bool)} {n : Nat} {c : Code}
theorem LT.nil : LT tab tbl loops an old n c (fun _ => none) := fun _ _ h => by cases h
theorem LT.cons {z : Nat} {L : aK} {J : Code} {rest : Nat → Option aK} (O : dU z (fD c 0) = some J) (h : Hw tab tbl loops an old n z J L) (M : LT tab tbl loops an old n c rest) :
  LT tab tbl loops an old n c (fun f => bif Nat.beq f z then some L else rest f) := by
 intro f N hL K A
 simp only at hL
 cases H : Nat.beq f z with
 | true =>
  rw [H] at hL
  obtain rfl := nb.1 H
  have := yb hL
  subst this
  rw [O] at A
  obtain rfl := yb A
  exact h
 | false =>
  rw [H] at hL
  exact M f N hL K A
theorem zO {α : Type} : ∀ {l : List (Nat × α)} {q : Nat × α}, dB (l.map (·.1)) = true → q ∈ l → dU q.1 l = some q.2
 | [], q, _, h => by cases h
 | p :: l, q, hn, h => by
  have z : (!(gW p.1 (l.map (·.1))) && dB (l.map (·.1))) = true := hn
  simp only [yc, yy] at z
  show (bif Nat.beq p.1 q.1 then some p.2 else dU q.1 l) = some q.2
  rcases yq1.1 h with rfl | h
  ·rw [ys3]; rfl
  ·have : Nat.beq p.1 q.1 = false := by
    cases A : Nat.beq p.1 q.1 with
    | true =>
     exfalso
     have hm : gW p.1 (l.map (·.1)) = true := oD.2 (by rw [nb.1 A]; exact List.mem_map_of_mem h)
     rw [hm] at z; cases z.1
    | false => rfl
   rw [this]
   exact zO z.2 h
theorem LT.ok (hn : dB ((fD c 0).map (·.1)) = true) (h : LT tab tbl loops an old n c loops) : sX tab tbl loops an old n c 0 := fun q z L hL => h q.1 L hL q.2 (zO hn z)
theorem aM.of (hn : nE P = true) (hm : P.follows .mixedOrders = true) (ht : cF P tab) (hT : Ba P tbl) {f : FuncId} {fn : Func} (hf : P.funcs[f]? = some fn) (J : fn.body = some c) {E : aG}
  (A : NR fn c E = true) (H : dB ((fD c 0).map (·.1)) = true) (z : ∀ d, eX (fV E.a.msh d) = old) (hl : LT tab tbl loops an old n c loops)
  (h : ∀ a, OH (bI (eP E.r)) tab tbl loops an fn E.a E.r a some = E.sh a) : aM P f E :=
 ⟨by simp only [NR, yc] at A; exact A.1.1, GD hn hm ht (fun g => yx.2 fun E hE => (hT g E hE).1) (fun g E hE => (hT g E hE).2) hf J A z (hl.ok H) h⟩
theorem aM.none {f : FuncId} {E : aG} (A : K3 E = true) (h : ∀ a, E.sh a = none) : aM P f E :=
 ⟨A, fun a b z => by rw [h] at z; cases z⟩
end
end Go.Ab
