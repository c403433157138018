import Derived.Test.YtdlbbdbbpoggfaaLib34
set_option linter.unusedVariables false
set_option linter.unusedSectionVars false
namespace Go.Ab
variable [GTab]
variable {P : Program} {tab : TypeId → Option TI}
def kindsSh : Sh → List (Option Bool)
 | .cons a b => kindsSh a ++ kindsSh b
 | .bnone => [none]
 | .bts _ _ _ _ _ => [some false]
 | .bcells _ _ _ _ => [some true]
 | .bos _ _ _ _ => [some false]
 | _ => []
theorem zcr : ∀ (a b : KMem), kindsK (a ++ b) = kindsK a ++ kindsK b
 | [], _ => rfl
 | none :: r, b => congrArg (none :: ·) (zcr r b)
 | some _ :: r, b => congrArg (_ :: ·) (zcr r b)
theorem zix : ∀ (s : Sh) (d : s.den), kindsK (encM s d) = kindsSh s := by
 intro s
 induction s with
 | cons a b iha ihb => intro d; show kindsK (encM a _ ++ encM b _) = _; rw [zcr, iha, ihb]; rfl
 | _ => intro d; rfl
noncomputable def bodyC (f : Func) : Code := match f.body with | some c => c | none => .skip
noncomputable def loopC (b : Nat) (c : Code) : Code := match assoc b (loopsIn c 0) with | some c => c | none => .skip
def liveL (b : Nat) (an : Ann) : List Nat := match assoc b an.live with | some l => l | none => []
def lookT : List (Nat × Entry) → FuncId → List Entry
 | [] => fun _ => []
 | q :: l => fun f => bif Nat.beq f q.1 then q.2 :: lookT l f else lookT l f
def TL (P : Program) (l : List (Nat × Entry)) : Prop := ∀ q ∈ l, EOK P q.1 q.2
theorem TL.e : TL P [] := fun _ h => by cases h
theorem TL.k {g : Nat} {E : Entry} {l : List (Nat × Entry)} (h : EOK P g E) (r : TL P l) : TL P ((g, E) :: l) := fun q hq => by
 rcases yn1.1 hq with rfl | hq
 ·exact h
 ·exact r q hq
theorem TL.ok : ∀ {l : List (Nat × Entry)}, TL P l → TblOK P (lookT l)
 | [], _, _, _, h => by cases h
 | q :: l, hl, f, E, h => by
  have hr : TL P l := fun x hx => hl x (yi _ hx)
  simp only [lookT] at h
  cases hb : Nat.beq f q.1 with
  | true =>
   rw [hb] at h
   rcases yn1.1 h with rfl | h
   ·obtain rfl := nb.1 hb; exact hl q yn
   ·exact hr.ok f E h
  | false => rw [hb] at h; exact hr.ok f E h
section
variable {tbl : FuncId → List Entry} {loops : Nat → Option LEntry} {an : Ann} {old : List (Option Bool)} {n : Nat} {c : Code}
def LF (tab : TypeId → Option TI) (tbl : FuncId → List Entry) (loops : Nat → Option LEntry) (an : Ann) (old : List (Option Bool)) (n : Nat) (c : Code) (b : Nat) (L : LEntry) : Prop :=
 ∃ B : VDen L.heads → Option (VDen L.heads ⊕ VDen L.outs), (∀ s, L.run s = loopS B n s) ∧ ∀ s, roundK (real _) tab tbl loops an old (loopC b c) b (liveL b an) L.heads L.outs s some = B s
def LS (tab : TypeId → Option TI) (tbl : FuncId → List Entry) (loops : Nat → Option LEntry) (an : Ann) (old : List (Option Bool)) (n : Nat) (c : Code) (l : List (Nat × LEntry)) : Prop := ∀ q ∈ l, LF tab tbl loops an old n c q.1 q.2
theorem LS.e : LS tab tbl loops an old n c [] := fun _ h => by cases h
theorem LS.k {b : Nat} {L : LEntry} {l : List (Nat × LEntry)} {B : VDen L.heads → Option (VDen L.heads ⊕ VDen L.outs)} (h : ∀ s, L.run s = loopS B n s)
  (g : ∀ s, roundK (real _) tab tbl loops an old (loopC b c) b (liveL b an) L.heads L.outs s some = B s) (r : LS tab tbl loops an old n c l) : LS tab tbl loops an old n c ((b, L) :: l) := fun q hq => by
 rcases yn1.1 hq with rfl | hq
 ·exact ⟨B, h, g⟩
 ·exact r q hq
theorem zfr {α : Type} : ∀ {l : List (Nat × α)} {b : Nat} {x : α}, assoc b l = some x → (b, x) ∈ l
 | [], _, _, h => by cases h
 | p :: l, b, x, h => by
  have h' : (bif Nat.beq p.1 b then some p.2 else assoc b l) = some x := h
  cases hb : Nat.beq p.1 b with
  | true => rw [hb] at h'; obtain rfl := nb.1 hb; obtain rfl := ya h'; exact yn
  | false => rw [hb] at h'; exact yi _ (zfr h')
def chkL (an : Ann) : List (Nat × LEntry) → Bool
 | [] => true
 | q :: l => (match assoc q.1 an.live with | some l => incFrom 0 l | none => false) && chkL an l
theorem LS.lt : ∀ {l : List (Nat × LEntry)}, chkL an l = true → LS tab tbl loops an old n c l → LT tab tbl loops an old n c fun b => assoc b l := by
 intro l hc h b L hL c' hc'
 have hm := zfr hL
 have hk : ∀ {l : List (Nat × LEntry)}, chkL an l = true → ∀ q ∈ l, ∃ x, assoc q.1 an.live = some x ∧ incFrom 0 x = true := by
  intro l
  induction l with
  | nil => intro _ q hq; cases hq
  | cons p l ih =>
   intro hc q hq
   simp only [chkL, yb] at hc
   rcases yn1.1 hq with rfl | hq
   ·cases ha : assoc q.1 an.live with
    | none => rw [ha] at hc; cases hc.1
    | some x => rw [ha] at hc; exact ⟨x, rfl, hc.1⟩
   ·exact ih hc.2 q hq
 obtain ⟨x, hx, hi⟩ := hk hc _ hm
 obtain ⟨B, h1, h2⟩ := h _ hm
 refine ⟨x, B, hx, hi, h1, fun s => ?_⟩
 have := h2 s
 simp only [loopC, liveL] at this
 rw [hc', hx] at this
 exact this
end
def chkF (fn : Func) (an : Ann) (E : Entry) (ls : List (Nat × LEntry)) : Bool :=
 (match fn.body with | some c => okF fn c E && nodupN ((loopsIn c 0).map (·.1)) | none => false) && chkL an ls
structure POK (P : Program) (tab : TypeId → Option TI) : Prop where
 hn : namesOK P = true
 hm : P.follows .mixedOrders = true
 ht : TabOK P tab
section
variable {fn : Func} {f : FuncId} {E : Entry} {l : List (Nat × Entry)}
theorem znV {an : Ann} {ls : List (Nat × LEntry)} (hc : chkF fn an E ls = true) : fn.body = some (bodyC fn) ∧ okF fn (bodyC fn) E = true ∧ nodupN ((loopsIn (bodyC fn) 0).map (·.1)) = true ∧ chkL an ls = true := by
 simp only [chkF, yb] at hc
 unfold bodyC
 cases hb : fn.body with
 | none => rw [hb] at hc; cases hc.1
 | some c =>
  rw [hb] at hc
  simp only [yb] at hc
  exact ⟨rfl, hc.1.1, hc.1.2, hc.2⟩
theorem EOK.b (n : Nat) (hz : POK P tab) (fn : Func) (an : Ann) (ls : List (Nat × LEntry)) (hT : TL P l) (hl : LS tab (lookT l) (fun b => assoc b ls) an (kindsSh E.a.msh) n (bodyC fn) ls)
  (hf : P.funcs[f]? = some fn) (hc : chkF fn an E ls = true) (hrun : ∀ a, funD (real (VDen E.r)) tab (lookT l) (fun b => assoc b ls) an fn E.a E.r a some = E.sh a) : EOK P f E :=
 have h := znV hc
 .of hz.hn hz.hm hz.ht hT.ok hf h.1 h.2.1 h.2.2.1 (fun _ => zix _ _) (hl.lt h.2.2.2) hrun
theorem EOK.bS (n : Nat) (hz : POK P tab) (fn : Func) (an : Ann) (ls : List (Nat × LEntry)) (hT : TL P l) (hl : LS tab (lookT l) (fun b => assoc b ls) an (kindsSh E.a.msh) n (bodyC fn) ls)
  (hf : P.funcs[f]? = some fn) (hc : chkF fn an E ls = true) (hrun : ∀ a, funDS (real (VDen E.r)) tab (lookT l) (fun b => assoc b ls) an fn (kindsSh E.a.msh).length E.a E.r a some = E.sh a) : EOK P f E :=
 have h := znV hc
 .ofS hz.hn hz.hm hz.ht hT.ok hf h.1 h.2.1 h.2.2.1 (fun _ => zix _ _) (hl.lt h.2.2.2) hrun
end
abbrev u1 (a : Sh) : Sh := .cons a .nil
abbrev u2 (a b : Sh) : Sh := .cons a (u1 b)
abbrev u3 (a b c : Sh) : Sh := .cons a (u2 b c)
abbrev u4 (a b c d : Sh) : Sh := .cons a (u3 b c d)
abbrev u5 (a b c d e : Sh) : Sh := .cons a (u4 b c d e)
abbrev u6 (a b c d e f : Sh) : Sh := .cons a (u5 b c d e f)
abbrev u7 (a b c d e f g : Sh) : Sh := .cons a (u6 b c d e f g)
abbrev u8 (a b c d e f g h : Sh) : Sh := .cons a (u7 b c d e f g h)
abbrev SN (l : List Nat) (s m : Sh) : StSh := ⟨.normal, l, s, m⟩
abbrev SY (l : List Nat) (s m : Sh) : StSh := ⟨.ret, l, s, m⟩
abbrev SX (k : Nat) (l : List Nat) (s m : Sh) : StSh := ⟨.exit k, l, s, m⟩
end Go.Ab
