import Derived.Test.YtdlbbdbbpoggfaaLib28
set_option linter.unusedVariables false
set_option linter.unusedSectionVars false
namespace Go.Ab
variable [GTab]
variable {P : Program} {tab : TypeId → Option TI}
def EOK (P : Program) (g : FuncId) (E : Entry) : Prop := okE E = true ∧ EntryOK P g E
def TblOK (P : Program) (tbl : FuncId → List Entry) : Prop := ∀ g, ∀ E ∈ tbl g, EOK P g E
theorem TblOK.nil : TblOK P (fun _ => []) := fun _ _ h => by cases h
theorem AllE.nil {g : FuncId} : ∀ E ∈ ([] : List Entry), EOK P g E := fun _ h => by cases h
theorem AllE.cons {g : FuncId} {E : Entry} {l : List Entry} (h : EOK P g E) (hl : ∀ E ∈ l, EOK P g E) : ∀ E' ∈ E :: l, EOK P g E' := by
 intro E' hE
 rcases yn1.1 hE with rfl | hE
 ·exact h
 ·exact hl _ hE
theorem TblOK.cons {g : FuncId} {l : List Entry} {rest : FuncId → List Entry} (h : ∀ E ∈ l, EOK P g E) (hr : TblOK P rest) : TblOK P (fun f => bif Nat.beq f g then l else rest f) := by
 intro f E hE
 simp only at hE
 cases hb : Nat.beq f g with
 | true =>
  rw [hb] at hE
  obtain rfl := nb.1 hb
  exact h E hE
 | false =>
  rw [hb] at hE
  exact hr f E hE
def LoopFact (tab : TypeId → Option TI) (tbl : FuncId → List Entry) (loops : Nat → Option LEntry) (an : Ann) (old : List (Option Bool)) (n : Nat) (bid : Nat) (c : Code) (L : LEntry) : Prop :=
 ∃ (live : List Nat) (B : VDen L.heads → Option (VDen L.heads ⊕ VDen L.outs)), assoc bid an.live = some live ∧ incFrom 0 live = true ∧ (∀ s, L.run s = loopS B n s) ∧
  ∀ s, roundK (real _) tab tbl loops an old c bid live L.heads L.outs s some = B s
def LT (tab : TypeId → Option TI) (tbl : FuncId → List Entry) (loops : Nat → Option LEntry) (an : Ann) (old : List (Option Bool)) (n : Nat) (c : Code) (l : Nat → Option LEntry) : Prop :=
 ∀ bid L, l bid = some L → ∀ c', assoc bid (loopsIn c 0) = some c' → LoopFact tab tbl loops an old n bid c' L
section
variable {tbl : FuncId → List Entry} {loops : Nat → Option LEntry} {an : Ann} {old : List (Option Bool)} {n : Nat} {c : Code}
theorem LT.nil : LT tab tbl loops an old n c (fun _ => none) := fun _ _ h => by cases h
theorem LT.cons {bid : Nat} {L : LEntry} {c' : Code} {rest : Nat → Option LEntry} (hc : assoc bid (loopsIn c 0) = some c') (h : LoopFact tab tbl loops an old n bid c' L) (hr : LT tab tbl loops an old n c rest) :
  LT tab tbl loops an old n c (fun f => bif Nat.beq f bid then some L else rest f) := by
 intro f L' hL c1 hc1
 simp only at hL
 cases hb : Nat.beq f bid with
 | true =>
  rw [hb] at hL
  obtain rfl := nb.1 hb
  have := ya hL
  subst this
  rw [hc] at hc1
  obtain rfl := ya hc1
  exact h
 | false =>
  rw [hb] at hL
  exact hr f L' hL c1 hc1
theorem zfO {α : Type} : ∀ {l : List (Nat × α)} {q : Nat × α}, nodupN (l.map (·.1)) = true → q ∈ l → assoc q.1 l = some q.2
 | [], q, _, h => by cases h
 | p :: l, q, hn, h => by
  have hn' : (!(memN p.1 (l.map (·.1))) && nodupN (l.map (·.1))) = true := hn
  simp only [yb, yt] at hn'
  show (bif Nat.beq p.1 q.1 then some p.2 else assoc q.1 l) = some q.2
  rcases yn1.1 h with rfl | h
  ·rw [yq2]; rfl
  ·have : Nat.beq p.1 q.1 = false := by
    cases hb : Nat.beq p.1 q.1 with
    | true =>
     exfalso
     have hm : memN p.1 (l.map (·.1)) = true := zba.2 (by rw [nb.1 hb]; exact List.mem_map_of_mem h)
     rw [hm] at hn'; cases hn'.1
    | false => rfl
   rw [this]
   exact zfO hn'.2 h
theorem LT.ok (hn : nodupN ((loopsIn c 0).map (·.1)) = true) (h : LT tab tbl loops an old n c loops) : LoopsOK tab tbl loops an old n c 0 := fun q hq L hL => h q.1 L hL q.2 (zfO hn hq)
theorem EOK.of (hn : namesOK P = true) (hm : P.follows .mixedOrders = true) (ht : TabOK P tab) (hT : TblOK P tbl) {f : FuncId} {fn : Func} (hf : P.funcs[f]? = some fn) (hb : fn.body = some c) {E : Entry}
  (ho : okF fn c E = true) (hnd : nodupN ((loopsIn c 0).map (·.1)) = true) (hold : ∀ d, kindsK (encM E.a.msh d) = old) (hl : LT tab tbl loops an old n c loops)
  (hrun : ∀ a, funD (real (VDen E.r)) tab tbl loops an fn E.a E.r a some = E.sh a) : EOK P f E :=
 ⟨by simp only [okF, yb] at ho; exact ho.1.1, zkP hn hm ht (fun g => yo2.2 fun E hE => (hT g E hE).1) (fun g E hE => (hT g E hE).2) hf hb ho hold (hl.ok hnd) hrun⟩
theorem EOK.none {f : FuncId} {E : Entry} (ho : okE E = true) (h : ∀ a, E.sh a = none) : EOK P f E :=
 ⟨ho, fun a b hab => by rw [h] at hab; cases hab⟩
end
end Go.Ab
