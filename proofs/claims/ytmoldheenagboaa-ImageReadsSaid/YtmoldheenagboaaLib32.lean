import Derived.Test.YtmoldheenagboaaLib27
set_option linter.unusedVariables false
set_option linter.unusedSectionVars false
set_option linter.unusedSimpArgs false
namespace Go.Ab
variable [b8]
variable {P : Program} {R : Type} {r : R} {tab : TypeId → Option TI} {mem : aO}
noncomputable section
mutual
def AV.frzD (m : Nat) (mem : aW) : AV → AV
 | .agg cs => .agg (AV.frzDs m mem cs)
 | .tup cs => .tup (AV.frzDs m mem cs)
 | .msw b g => AV.frz m mem (.msw b g)
 | v => v
def AV.frzDs (m : Nat) (mem : aW) : List AV → List AV
 | [] => []
 | v :: r => v.frzD m mem :: AV.frzDs m mem r
end
mutual
def KV.frzD (m : Nat) (mem : aO) : KV → KV
 | .agg cs => .agg (KV.frzDs m mem cs)
 | .tup cs => .tup (KV.frzDs m mem cs)
 | .msw b g => KV.frz m mem (.msw b g)
 | v => v
def KV.frzDs (m : Nat) (mem : aO) : List KV → List KV
 | [] => []
 | v :: r => v.frzD m mem :: KV.frzDs m mem r
end
def gC (k : Nat) : j8 := fun b g => bif Nat.blt b k then some (b, g) else none
def iV (f : j8) : aW → aW
 | [] => []
 | some x :: r => some { x with row := x.row.ren f } :: iV f r
 | none :: r => none :: iV f r
def qP (f : j8) : aO → aO
 | [] => []
 | some x :: r => some ⟨x.gen, x.frz, x.row.ren f⟩ :: qP f r
 | none :: r => none :: qP f r
def jE (k : Nat) (q : AV × aW) : AV × aW :=
 bif eE k (q.1.frzD k q.2).refs && eE k (j7 (q.2.take k)) then ((q.1.frzD k q.2).ren (gC k), iV (gC k) (q.2.take k)) else q
def nW (k : Nat) (v : KV) (mem : aO) : KV × aO :=
 bif eE k (v.frzD k mem).refs && eE k (kT (mem.take k)) then ((v.frzD k mem).ren (gC k), qP (gC k) (mem.take k)) else (v, mem)
mutual
theorem C9 (m : Nat) (mem : aO) : ∀ v : KV, v.down.frzD m (aB mem) = (v.frzD m mem).down
 | .agg cs => by simp only [KV.down, AV.frzD, KV.frzD, sM m mem cs]
 | .tup cs => by simp only [KV.down, AV.frzD, KV.frzD, sM m mem cs]
 | .msw b g => Ce m mem (.msw b g)
 | .lit v => by simp only [KV.down, AV.frzD, KV.frzD]
 | .tsl β ag T xs => by simp only [KV.down, AV.frzD, KV.frzD]
 | .el β ag T x c => by simp only [KV.down, AV.frzD, KV.frzD]
 | .ptr b g i c => by simp only [KV.down, AV.frzD, KV.frzD]
 | .ms b g o n => by simp only [KV.down, AV.frzD, KV.frzD]
 | .fn f fi ca => by simp only [KV.down, AV.frzD, KV.frzD]
 | .dead => by simp only [KV.down, AV.dead, AV.frzD, KV.frzD]
 | .gone => by simp only [KV.down, AV.goneV, AV.frzD, KV.frzD]
 | .unkB => by simp only [KV.down, AV.unkB, AV.frzD, KV.frzD]
theorem sM (m : Nat) (mem : aO) : ∀ vs : List KV, AV.frzDs m (aB mem) (KV.downs vs) = KV.downs (KV.frzDs m mem vs)
 | [] => by simp only [KV.downs, AV.frzDs, KV.frzDs]
 | v :: vs => by simp only [KV.downs, AV.frzDs, KV.frzDs, C9 m mem v, sM m mem vs]
end
theorem pF (f : j8) : ∀ mem : aO, iV f (aB mem) = aB (qP f mem)
 | [] => rfl
 | none :: m => by
  have := pF f m
  simp only [aB, yc2, Option.map_none, iV, qP] at this ⊢
  rw [this]
 | some x :: m => by
  have := pF f m
  simp only [aB, yc2, yn, iV, qP] at this ⊢
  rw [this]
  simp only [eI.down, AM]
theorem Hl (k : Nat) (v : KV) (mem : aO) : jE k (v.down, aB mem) = ((nW k v mem).1.down, aB (nW k v mem).2) := by
 unfold jE nW
 simp only [C9, CO, j9, y4, u9, pF]
 cases eE k (KV.frzD k mem v).refs && eE k (kT (mem.take k)) <;> rfl
theorem mP (m : Nat) (mem : aW) : ∀ vs : List AV, AV.frzDs m mem vs = vs.map (·.frzD m mem)
 | [] => by simp [AV.frzDs]
 | v :: vs => by simp [AV.frzDs, mP m mem vs]
theorem Ih {G : Gh} {w : World} {mem : aW} {m : Nat} {v : AV} {cv : Value} (Z : aQ G w mem) (hv : VR G w v cv) : VR (G.frz (kX G mem m)) w (v.frzD m mem) cv := by
 have hg : dA G (G.frz (kX G mem m)) := dA.frz G _ (by rintro B o ⟨b, x, L, _, V, H, hB⟩; exact Z.mine V H hB)
 have z := fun {a : AV} {u : Value} (h : VR G w a u) => h.mono hg (Ev.refl G w)
 induction hv with
 | lit v h => simp only [AV.frzD]; exact .lit v h
 | imm β p v h hs => simp only [AV.frzD]; exact z (.imm β p v h hs)
 | unkB b => simp only [AV.frzD]; exact .unkB b
 | dead v Y h2 => simp only [AV.frzD]; exact .dead v Y h2
 | ptr b g i c L B H K => simp only [AV.frzD]; exact z (.ptr b g i c L B H K)
 | ms b g o n cap L B H K O N U => simp only [AV.frzD]; exact z (.ms b g o n cap L B H K O N U)
 | msNil b g L H K => simp only [AV.frzD]; exact z (.msNil b g L H K)
 | msZ b g o B oo L H K ho N => simp only [AV.frzD]; exact z (.msZ b g o B oo L H K ho N)
 | msw b g cap L B H K O U => simp only [AV.frzD]; exact nC Z (.msw b g cap L B H K O U)
 | mswNil b g L H K O => simp only [AV.frzD]; exact nC Z (.mswNil b g L H K O)
 | el β p c B o cv h hr => simp only [AV.frzD]; exact z (.el β p c B o cv h hr)
 | fn f fi ca fv cv Y h2 U hc ihf ihc => simp only [AV.frzD]; exact z (.fn f fi ca fv cv Y h2 U hc)
 | agg cs cvs J h ih =>
  simp only [AV.frzD]
  refine .agg _ cvs (by rw [mP]; simpa using J) (fun j y W => ?_)
  rw [mP, yc1] at W
  obtain ⟨x, V, rfl⟩ := yd.1 W
  exact ih j x V
 | tup cs cvs J h ih =>
  simp only [AV.frzD]
  refine .tup _ cvs (by rw [mP]; simpa using J) (fun j y W => ?_)
  rw [mP, yc1] at W
  obtain ⟨x, V, rfl⟩ := yd.1 W
  exact ih j x V
theorem iW (f : j8) : ∀ (m : aW) (j : Nat), (iV f m)[j]? = (m[j]?).map fun o => o.map fun x => { x with row := x.row.ren f }
 | [], j => by simp [iV]
 | some x :: m, 0 => rfl
 | none :: m, 0 => rfl
 | some x :: m, j + 1 => by simp only [iV, ys1]; exact iW f m j
 | none :: m, j + 1 => by simp only [iV, ys1]; exact iW f m j
theorem Ld.settle {G : Gh} {w : World} {m : aW} {q : AV × aW} {N : Gh} {w' : World} {cv : Value} (h : Ld G w m q N w' cv) : ∃ G2, Ld G w m (jE m.length q) G2 w' cv := by
 unfold jE
 cases hc : (eE m.length (q.1.frzD m.length q.2).refs && eE m.length (j7 (q.2.take m.length))) with
 | false => exact ⟨N, h⟩
 | true =>
  simp only [yg]
  obtain ⟨hv, hev, hmine, hprot, hnew, Y, hgens, hkept, hnones⟩ := h
  have hg : dA N (N.frz (kX N q.2 m.length)) := dA.frz N _ (by rintro B o ⟨b, x, L, _, z, W, hB⟩; exact Y.mine z W hB)
  let G2 : Gh := { loc := fun b g => if b < m.length then N.loc b g else none, prot := fun β B o => N.prot β B o ∨ kX N q.2 m.length B o, mine := N.mine }
  have H : ∀ {b g : Nat}, b < m.length → G2.loc b g = N.loc b g := fun O => if_pos O
  have hro : z2 (N.frz (kX N q.2 m.length)) G2 (gC m.length) := by
   intro b g p L J hL
   unfold gC at J
   cases O : Nat.blt b m.length with
   | false => rw [O] at J; cases J
   | true =>
    rw [O] at J
    obtain rfl := ya J
    rw [Nat.blt_eq] at O
    show G2.loc b g = some L
    rw [H O]; exact hL
  have K : ∀ {j : Nat} {y : c7}, (iV (gC m.length) (q.2.take m.length))[j]? = some (some y) → j < m.length ∧ ∃ x, q.2[j]? = some (some x) ∧ y = { x with row := x.row.ren (gC m.length) } := by
   intro j y V
   rw [iW, yh2] at V
   by_cases hj : j < m.length
   ·rw [if_pos hj] at V
    obtain ⟨o, ho, hoy⟩ := yd.1 V
    cases o with
    | none => cases hoy
    | some x => exact ⟨hj, x, ho, (ya hoy).symm⟩
   ·rw [if_neg hj] at V; cases V
  refine ⟨G2, ?_, hev, hmine, fun β B o J => .inl (hprot β B o J), ?_, ?_, ?_, ?_, ?_⟩
  ·exact (Ih Y hv).ren (l := true) hro (fun β B o _ J => J) (fun _ => rfl)
  ·rintro β B o (J | ⟨b, x, L, _, z, W, hB⟩)
   ·exact hnew β B o J
   ·exact .inr (hmine ▸ Y.mine z W hB)
  ·refine ⟨?_, ?_, ?_, ?_, Y.own, fun B o J => J.imp (Y.lab B o) id, ?_, Y.glob.mono (fun _ _ h => .inl h) fun _ _ _ => rfl⟩
   ·intro b y V
    obtain ⟨O, x, z, rfl⟩ := K V
    have hbx := Y.box b x z
    obtain ⟨o, W, Z⟩ := hbx.loc
    refine ⟨by rw [kA]; exact hbx.e, o, by rw [H O, kA, gS]; exact W, ?_⟩
    cases o with
    | none => exact ⟨by rw [gS]; exact Z.1, by rw [dH]; exact Z.2⟩
    | some B =>
     obtain ⟨h1, h2, h3, h4, h5⟩ := Z
     have hrow : nF (N.frz (kX N q.2 m.length)) w' B x.row := h4.mono hg (Ev.refl N w') (fun _ _ => rfl)
     refine ⟨h1, h2, h3, hrow.ren (l := true) hro (fun β B o _ J => J) (fun _ => rfl), fun hf β o J => ?_⟩
     rcases J with J | ⟨b', x', L', hb', hx', U, hB'⟩
     ·exact h5 hf β o J
     ·have := Y.apart b b' x x' _ L' B z hx' W U rfl hB'
      omega
   ·intro b g hn
    by_cases O : b < m.length
    ·rw [H O]
     refine Y.unset b g fun x z => hn { x with row := x.row.ren (gC m.length) } ?_
     rw [iW, yh2, if_pos O, z]; rfl
    ·exact if_neg O
   ·intro b y g V hlt
    obtain ⟨O, x, z, rfl⟩ := K V
    rw [H O]
    exact Y.gens b x g z hlt
   ·intro b b' y y' L L' B V hy' W U hB hB'
    obtain ⟨O, x, z, rfl⟩ := K V
    obtain ⟨hb', x', hx', rfl⟩ := K hy'
    rw [H O] at W
    rw [H hb'] at U
    exact Y.apart b b' x x' L L' B z hx' W U hB hB'
   ·rintro β B o (J | ⟨b, x, L, _, z, W, hB⟩)
    ·exact Y.away β B o J
    ·obtain ⟨oo, U, Z⟩ := (Y.box b x z).loc
     rw [W] at U
     obtain rfl := ya U
     simp only at hB; subst hB
     exact Z.2.1
  ·intro j y V
   obtain ⟨_, x, z, rfl⟩ := K V
   exact hgens j x z
  ·intro j x z
   have hj : j < m.length := by
    rcases yu1 j m.length with h | h
    ·exact h
    ·rw [yy h] at z; cases z
   obtain ⟨y, V, hk, W⟩ := hkept j x z
   refine ⟨{ y with row := y.row.ren (gC m.length) }, ?_, by rw [dH]; exact hk, fun hc L hL => ?_⟩
   ·show (iV (gC m.length) (q.2.take m.length))[j]? = _
    rw [iW, yh2, if_pos hj, V]; rfl
   ·rw [H hj]; exact W hc L hL
  ·intro j z
   have hj : j < m.length := by
    rcases yu1 j m.length with h | h
    ·exact h
    ·rw [yy h] at z; cases z
   show (iV (gC m.length) (q.2.take m.length))[j]? = _
   rw [iW, yh2, if_pos hj, hnones j z]; rfl
def bM {R : Type} (I : MB R) (tab : TypeId → Option TI) (tbl : FuncId → List aD) (loops : Nat → Option aH) (an : dJ) (fn : Func) (k0 : Nat) (a : aI) (rr : List aI) (d : a.den) (k : eU rr → Option R) : Option R :=
 LC I tab tbl loops an fn (dG a.sh (P2.fst a.sh.dflt _ _ d)) (eH a.msh (P2.snd a.msh.dflt _ _ d)) fun v mem =>
  match mJ true rr .ret ⟨cX [0] [(nW k0 v mem).1], (nW k0 v mem).2⟩ with
  | some b => k b
  | none => none
theorem l7 : ∀ mem : aO, (gO mem).length = mem.length
 | [] => rfl
 | none :: m => by simp only [gO, yw, l7 m]
 | some x :: m => by simp only [gO, yw, l7 m]
open Classical in
theorem C4 (hn : n8 P = true) (hm : P.follows .mixedOrders = true) (ht : b9 P tab) {tbl : FuncId → List aD} (hto : ∀ g, (tbl g).all FU = true) (htb : ∀ g, ∀ E ∈ tbl g, nQ P g E)
  {f : FuncId} {fn : Func} (hf : P.funcs[f]? = some fn) {c : Code} (hb : fn.body = some c) {E : aD} (ho : L0 fn c E = true) {an : dJ} {loops : Nat → Option aH} {old : List (Option Bool)} {n : Nat}
  (J : ∀ d, gO (eH E.a.msh d) = old) (hl : nY tab tbl loops an old n c 0) (Y : ∀ a, bM (aL (eU E.r)) tab tbl loops an fn old.length E.a E.r a some = E.sh a) : nQ P f E := by
 intro a b hab G w as m vargs hle hM hg0 hv
 refine ⟨nR hf hn (by rw [hb]; rfl), ?_⟩
 simp only [L0, yc] at ho
 have O := ho.1.1
 simp only [FU, yc] at O
 obtain ⟨Z, hls, rfl⟩ := hle
 have hC := sT htb
 have K := kE.all (w := w) hM.lab O.1.1.1 hls
 have hv' := K.vrs hv
 have V := (Y a).trans hab
 unfold bM LC at V
 rw [hb] at V
 simp only at V
 rw [J] at V
 have hkl : (aB (eH E.a.msh (P2.snd E.a.msh.dflt E.a.sh.un E.a.msh.un a))).length = old.length := by
  rw [← J, l7, g8]
 let k1 : Ex → St → Option Unit := fun e st => if ∃ q, BO P fn old e st = some q ∧ C0 E b (jE old.length q) then some () else none
 have hlenA : (dG E.a.sh (P2.fst E.a.sh.dflt E.a.sh.un E.a.msh.un a)).length ≤ fn.ntmps := by
  rw [← aK, ← K.len, Z]; exact nl.1 ho.2
 have U := w5 ht (Fk hto) (n := n) (m := fn.ntmps) c ho.1.2 (R1 := Unit) (r1 := ()) (k1 := k1) hl (yW (n := fn.ntmps) fun v hv => m6 hv)
  (by rw [yj, yc3, aK]; omega) V (fun e st' tmps' h1 h2 h3 => ?_)
 ·have H : iM (aB (eH E.a.msh (P2.snd E.a.msh.dflt E.a.sh.un E.a.msh.un a))) = old := (iQ _).trans (J _)
  have := KY hC (wF hm hC an) (n := n) hf hb (args := KV.downs (dG E.a.sh (P2.fst E.a.sh.dflt E.a.sh.un E.a.msh.un a))) (k1 := k1) (r1 := ()) (good := fun q => C0 E b (jE old.length q)) (fun e st h => by
   rw [H]
   show ∃ q, BO P fn old e st = some q ∧ C0 E b (jE old.length q)
   by_cases hq : ∃ q, BO P fn old e st = some q ∧ C0 E b (jE old.length q)
   ·exact hq
   ·have h : (if ∃ q, BO P fn old e st = some q ∧ C0 E b (jE old.length q) then some () else none) = some () := h
    rw [if_neg hq] at h; cases h) (by rw [H, aK]; exact U) hM hg0 hv'
  refine this.mono fun e w' hq => ?_
  obtain ⟨q, hg, G', cv, he, z⟩ := hq
  obtain ⟨G2, z⟩ := z.settle
  rw [hkl] at z
  generalize jE old.length q = q2 at hg z
  obtain ⟨qv, qm⟩ := q2
  obtain ⟨N, hg2⟩ := hg
  have N : qm = (wD E b).2 := N
  subst N
  exact ⟨G2, cv, he, hg2 G2 w' cv z.memR.lab z.v, z.ev, z.mine, z.prot, z.new, z.memR, z.gens, z.kept, z.nones⟩
 ·obtain ⟨v, mm, h4, h5⟩ := Gu ht h2 h1
  have W : mJ true E.r .ret ⟨cX [0] [(nW old.length v mm).1], (nW old.length v mm).2⟩ = some b := by
   split at h4
   ·rename_i b' hb'
    rw [hb', ya h4]
   ·cases h4
  obtain ⟨g1, g2⟩ := Co O.2 W
  refine if_pos ⟨_, h5, ?_⟩
  rw [Hl]
  exact ⟨congrArg aB g1.symm, g2⟩
section
variable {tbl : FuncId → List aD} {loops : Nat → Option aH} {an : dJ} {old : List (Option Bool)} {n : Nat} {c : Code}
theorem cE.ofS (U : n8 P = true) (hm : P.follows .mixedOrders = true) (V : b9 P tab) (O : aE P tbl) {f : FuncId} {fn : Func} (Z : P.funcs[f]? = some fn) (Y : fn.body = some c) {E : aD}
  (N : L0 fn c E = true) (J : cW ((aU c 0).map (·.1)) = true) (H : ∀ d, gO (eH E.a.msh d) = old) (W : LT tab tbl loops an old n c loops)
  (z : ∀ a, bM (aL (eU E.r)) tab tbl loops an fn old.length E.a E.r a some = E.sh a) : cE P f E :=
 ⟨by simp only [L0, yc] at N; exact N.1.1, C4 U hm V (fun g => yi2.2 fun E K => (O g E K).1) (fun g E K => (O g E K).2) Z Y N H (W.ok J) z⟩
end
end
end Go.Ab
