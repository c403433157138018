import Derived.Test.YtdlbbdbbpoggfaaGreatDoorLib27
set_option linter.unusedVariables false
set_option linter.unusedSectionVars false
set_option linter.unusedSimpArgs false
namespace Go.Ab
variable [cD]
variable {P : Program} {R : Type} {r : R} {tab : TypeId → Option TI} {mem : aR}
noncomputable section
mutual
def AV.frzD (m : Nat) (mem : a9) : AV → AV
 | .agg cs => .agg (AV.frzDs m mem cs)
 | .tup cs => .tup (AV.frzDs m mem cs)
 | .msw b g => AV.frz m mem (.msw b g)
 | v => v
def AV.frzDs (m : Nat) (mem : a9) : List AV → List AV
 | [] => []
 | v :: r => v.frzD m mem :: AV.frzDs m mem r
end
mutual
def KV.frzD (m : Nat) (mem : aR) : KV → KV
 | .agg cs => .agg (KV.frzDs m mem cs)
 | .tup cs => .tup (KV.frzDs m mem cs)
 | .msw b g => KV.frz m mem (.msw b g)
 | v => v
def KV.frzDs (m : Nat) (mem : aR) : List KV → List KV
 | [] => []
 | v :: r => v.frzD m mem :: KV.frzDs m mem r
end
def g9 (k : Nat) : k9 := fun b g => bif Nat.blt b k then some (b, g) else none
def jR (f : k9) : a9 → a9
 | [] => []
 | some x :: r => some { x with row := x.row.ren f } :: jR f r
 | none :: r => none :: jR f r
def sW (f : k9) : aR → aR
 | [] => []
 | some x :: r => some ⟨x.gen, x.frz, x.row.ren f⟩ :: sW f r
 | none :: r => none :: sW f r
def jZ (k : Nat) (q : AV × a9) : AV × a9 :=
 bif fG k (q.1.frzD k q.2).refs && fG k (lJ (q.2.take k)) then ((q.1.frzD k q.2).ren (g9 k), jR (g9 k) (q.2.take k)) else q
def pQ (k : Nat) (v : KV) (mem : aR) : KV × aR :=
 bif fG k (v.frzD k mem).refs && fG k (lT (mem.take k)) then ((v.frzD k mem).ren (g9 k), sW (g9 k) (mem.take k)) else (v, mem)
mutual
theorem FX (m : Nat) (mem : aR) : ∀ v : KV, v.down.frzD m (aF mem) = (v.frzD m mem).down
 | .agg cs => by simp only [KV.down, AV.frzD, KV.frzD, wO m mem cs]
 | .tup cs => by simp only [KV.down, AV.frzD, KV.frzD, wO m mem cs]
 | .msw b g => Dy m mem (.msw b g)
 | .lit v => by simp only [KV.down, AV.frzD, KV.frzD]
 | .tsl β ag T xs => by simp only [KV.down, AV.frzD, KV.frzD]
 | .el β ag T x c => by simp only [KV.down, AV.frzD, KV.frzD]
 | .ptr b g i c => by simp only [KV.down, AV.frzD, KV.frzD]
 | .ms b g o n => by simp only [KV.down, AV.frzD, KV.frzD]
 | .fn f fi ca => by simp only [KV.down, AV.frzD, KV.frzD]
 | .dead => by simp only [KV.down, AV.dead, AV.frzD, KV.frzD]
 | .gone => by simp only [KV.down, AV.goneV, AV.frzD, KV.frzD]
 | .unkB => by simp only [KV.down, AV.unkB, AV.frzD, KV.frzD]
theorem wO (m : Nat) (mem : aR) : ∀ vs : List KV, AV.frzDs m (aF mem) (KV.downs vs) = KV.downs (KV.frzDs m mem vs)
 | [] => by simp only [KV.downs, AV.frzDs, KV.frzDs]
 | v :: vs => by simp only [KV.downs, AV.frzDs, KV.frzDs, FX m mem v, wO m mem vs]
end
theorem rX (f : k9) : ∀ mem : aR, jR f (aF mem) = aF (sW f mem)
 | [] => rfl
 | none :: m => by
  have := rX f m
  simp only [aF, yi2, Option.map_none, jR, sW] at this ⊢
  rw [this]
 | some x :: m => by
  have := rX f m
  simp only [aF, yi2, yo, jR, sW] at this ⊢
  rw [this]
  simp only [fJ.down, Cd]
theorem I7 (k : Nat) (v : KV) (mem : aR) : jZ k (v.down, aF mem) = ((pQ k v mem).1.down, aF (pQ k v mem).2) := by
 unfold jZ pQ
 simp only [FX, Ec, lE, A2, zJ, rX]
 cases fG k (KV.frzD k mem v).refs && fG k (lT (mem.take k)) <;> rfl
theorem oA (m : Nat) (mem : a9) : ∀ vs : List AV, AV.frzDs m mem vs = vs.map (·.frzD m mem)
 | [] => by simp [AV.frzDs]
 | v :: vs => by simp [AV.frzDs, oA m mem vs]
theorem Kc {G : Gh} {w : World} {mem : a9} {m : Nat} {v : AV} {cv : Value} (hM : aT G w mem) (Y : VR G w v cv) : VR (G.frz (lU G mem m)) w (v.frzD m mem) cv := by
 have hg : eA G (G.frz (lU G mem m)) := eA.frz G _ (by rintro B o ⟨b, x, L, _, hx, hl, hB⟩; exact hM.mine hx hl hB)
 have z := fun {a : AV} {u : Value} (h : VR G w a u) => h.mono hg (Ev.refl G w)
 induction Y with
 | lit v h => simp only [AV.frzD]; exact .lit v h
 | imm β p v h hs => simp only [AV.frzD]; exact z (.imm β p v h hs)
 | unkB b => simp only [AV.frzD]; exact .unkB b
 | dead v h1 h2 => simp only [AV.frzD]; exact .dead v h1 h2
 | ptr b g i c L B hl H => simp only [AV.frzD]; exact z (.ptr b g i c L B hl H)
 | ms b g o n cap L B hl H hn J hf => simp only [AV.frzD]; exact z (.ms b g o n cap L B hl H hn J hf)
 | msNil b g L hl H => simp only [AV.frzD]; exact z (.msNil b g L hl H)
 | msZ b g o B U L hl H ho J => simp only [AV.frzD]; exact z (.msZ b g o B U L hl H ho J)
 | msw b g cap L B hl H hn hf => simp only [AV.frzD]; exact oR hM (.msw b g cap L B hl H hn hf)
 | mswNil b g L hl H hn => simp only [AV.frzD]; exact oR hM (.mswNil b g L hl H hn)
 | el β p c B o cv h V => simp only [AV.frzD]; exact z (.el β p c B o cv h V)
 | fn f N W fv cv h1 h2 hf Z ihf O => simp only [AV.frzD]; exact z (.fn f N W fv cv h1 h2 hf Z)
 | agg cs cvs A h M =>
  simp only [AV.frzD]
  refine .agg _ cvs (by rw [oA]; simpa using A) (fun j y K => ?_)
  rw [oA, yh1] at K
  obtain ⟨x, hx, rfl⟩ := yf.1 K
  exact M j x hx
 | tup cs cvs A h M =>
  simp only [AV.frzD]
  refine .tup _ cvs (by rw [oA]; simpa using A) (fun j y K => ?_)
  rw [oA, yh1] at K
  obtain ⟨x, hx, rfl⟩ := yf.1 K
  exact M j x hx
theorem jP (f : k9) : ∀ (m : a9) (j : Nat), (jR f m)[j]? = (m[j]?).map fun o => o.map fun x => { x with row := x.row.ren f }
 | [], j => by simp [jR]
 | some x :: m, 0 => rfl
 | none :: m, 0 => rfl
 | some x :: m, j + 1 => by simp only [jR, yx1]; exact jP f m j
 | none :: m, j + 1 => by simp only [jR, yx1]; exact jP f m j
theorem Pb.settle {G : Gh} {w : World} {m : a9} {q : AV × a9} {K : Gh} {w' : World} {cv : Value} (h : Pb G w m q K w' cv) : ∃ G2, Pb G w m (jZ m.length q) G2 w' cv := by
 unfold jZ
 cases hc : (fG m.length (q.1.frzD m.length q.2).refs && fG m.length (lJ (q.2.take m.length))) with
 | false => exact ⟨K, h⟩
 | true =>
  simp only [yg]
  obtain ⟨hv, hev, U, hprot, hnew, hM, Y, Z, V⟩ := h
  have hg : eA K (K.frz (lU K q.2 m.length)) := eA.frz K _ (by rintro B o ⟨b, x, L, _, hx, hl, hB⟩; exact hM.mine hx hl hB)
  let G2 : Gh := { loc := fun b g => if b < m.length then K.loc b g else none, prot := fun β B o => K.prot β B o ∨ lU K q.2 m.length B o, mine := K.mine }
  have z : ∀ {b g : Nat}, b < m.length → G2.loc b g = K.loc b g := fun J => if_pos J
  have hro : A9 (K.frz (lU K q.2 m.length)) G2 (g9 m.length) := by
   intro b g p L A hL
   unfold g9 at A
   cases J : Nat.blt b m.length with
   | false => rw [J] at A; cases A
   | true =>
    rw [J] at A
    obtain rfl := yb A
    rw [Nat.blt_eq] at J
    show G2.loc b g = some L
    rw [z J]; exact hL
  have H : ∀ {j : Nat} {y : d8}, (jR (g9 m.length) (q.2.take m.length))[j]? = some (some y) → j < m.length ∧ ∃ x, q.2[j]? = some (some x) ∧ y = { x with row := x.row.ren (g9 m.length) } := by
   intro j y M
   rw [jP, yo2] at M
   by_cases W : j < m.length
   ·rw [if_pos W] at M
    obtain ⟨o, ho, hoy⟩ := yf.1 M
    cases o with
    | none => cases hoy
    | some x => exact ⟨W, x, ho, (yb hoy).symm⟩
   ·rw [if_neg W] at M; cases M
  refine ⟨G2, ?_, hev, U, fun β B o A => .inl (hprot β B o A), ?_, ?_, ?_, ?_, ?_⟩
  ·exact (Kc hM hv).ren (l := true) hro (fun β B o _ A => A) (fun _ => rfl)
  ·rintro β B o (A | ⟨b, x, L, _, hx, hl, hB⟩)
   ·exact hnew β B o A
   ·exact .inr (U ▸ hM.mine hx hl hB)
  ·refine ⟨?_, ?_, ?_, ?_, hM.own, fun B o A => A.imp (hM.lab B o) id, ?_, hM.glob.mono (fun _ _ h => .inl h) fun _ _ _ => rfl⟩
   ·intro b y M
    obtain ⟨J, x, hx, rfl⟩ := H M
    have hbx := hM.box b x hx
    obtain ⟨o, hl, O⟩ := hbx.loc
    refine ⟨by rw [lK]; exact hbx.e, o, by rw [z J, lK, iN]; exact hl, ?_⟩
    cases o with
    | none => exact ⟨by rw [iN]; exact O.1, by rw [eD]; exact O.2⟩
    | some B =>
     obtain ⟨h1, h2, h3, h4, h5⟩ := O
     have hrow : pX (K.frz (lU K q.2 m.length)) w' B x.row := h4.mono hg (Ev.refl K w') (fun _ _ => rfl)
     refine ⟨h1, h2, h3, hrow.ren (l := true) hro (fun β B o _ A => A) (fun _ => rfl), fun hf β o A => ?_⟩
     rcases A with A | ⟨b', x', L', hb', hx', N, hB'⟩
     ·exact h5 hf β o A
     ·have := hM.apart b b' x x' _ L' B hx hx' hl N rfl hB'
      omega
   ·intro b g hn
    by_cases J : b < m.length
    ·rw [z J]
     refine hM.unset b g fun x hx => hn { x with row := x.row.ren (g9 m.length) } ?_
     rw [jP, yo2, if_pos J, hx]; rfl
    ·exact if_neg J
   ·intro b y g M hlt
    obtain ⟨J, x, hx, rfl⟩ := H M
    rw [z J]
    exact hM.gens b x g hx hlt
   ·intro b b' y y' L L' B M hy' hl N hB hB'
    obtain ⟨J, x, hx, rfl⟩ := H M
    obtain ⟨hb', x', hx', rfl⟩ := H hy'
    rw [z J] at hl
    rw [z hb'] at N
    exact hM.apart b b' x x' L L' B hx hx' hl N hB hB'
   ·rintro β B o (A | ⟨b, x, L, _, hx, hl, hB⟩)
    ·exact hM.away β B o A
    ·obtain ⟨oo, N, O⟩ := (hM.box b x hx).loc
     rw [hl] at N
     obtain rfl := yb N
     simp only at hB; subst hB
     exact O.2.1
  ·intro j y M
   obtain ⟨_, x, hx, rfl⟩ := H M
   exact Y j x hx
  ·intro j x hx
   have W : j < m.length := by
    rcases ya2 j m.length with h | h
    ·exact h
    ·rw [ya1 h] at hx; cases hx
   obtain ⟨y, M, hk, hl⟩ := Z j x hx
   refine ⟨{ y with row := y.row.ren (g9 m.length) }, ?_, by rw [eD]; exact hk, fun hc L hL => ?_⟩
   ·show (jR (g9 m.length) (q.2.take m.length))[j]? = _
    rw [jP, yo2, if_pos W, M]; rfl
   ·rw [z W]; exact hl hc L hL
  ·intro j hx
   have W : j < m.length := by
    rcases ya2 j m.length with h | h
    ·exact h
    ·rw [ya1 h] at hx; cases hx
   show (jR (g9 m.length) (q.2.take m.length))[j]? = _
   rw [jP, yo2, if_pos W, V j hx]; rfl
def KC {R : Type} (I : Qe R) (tab : TypeId → Option TI) (tbl : FuncId → List aG) (loops : Nat → Option aL) (an : mR) (fn : Func) (k0 : Nat) (a : kS) (rr : List kS) (d : a.den) (k : eP rr → Option R) : Option R :=
 OY I tab tbl loops an fn (eX a.sh (P2.fst a.sh.dflt _ _ d)) (fV a.msh (P2.snd a.msh.dflt _ _ d)) fun v mem =>
  match x8 true rr .ret ⟨dP [0] [(pQ k0 v mem).1], (pQ k0 v mem).2⟩ with
  | some b => k b
  | none => none
theorem n6 : ∀ mem : aR, (e9 mem).length = mem.length
 | [] => rfl
 | none :: m => by simp only [e9, ye1, n6 m]
 | some x :: m => by simp only [e9, ye1, n6 m]
open Classical in
theorem Fm (hn : nI P = true) (hm : P.follows .mixedOrders = true) (ht : cF P tab) {tbl : FuncId → List aG} (hto : ∀ g, (tbl g).all KZ = true) (htb : ∀ g, ∀ E ∈ tbl g, sY P g E)
  {f : FuncId} {fn : Func} (hf : P.funcs[f]? = some fn) {c : Code} (hb : fn.body = some c) {E : aG} (Y : NT fn c E = true) {an : mR} {loops : Nat → Option aL} {old : List (Option Bool)} {n : Nat}
  (H : ∀ d, e9 (fV E.a.msh d) = old) (hl : sH tab tbl loops an old n c 0) (W : ∀ a, KC (bI (eP E.r)) tab tbl loops an fn old.length E.a E.r a some = E.sh a) : sY P f E := by
 intro a b hab G w as m vargs hle hM hg0 hv
 refine ⟨zM hf hn (by rw [hb]; rfl), ?_⟩
 simp only [NT, yc] at Y
 have M := Y.1.1
 simp only [KZ, yc] at M
 obtain ⟨O, hls, rfl⟩ := hle
 have hC := Dr htb
 have J := l9.all (w := w) hM.lab M.1.1.1 hls
 have hv' := J.vrs hv
 have V := (W a).trans hab
 unfold KC OY at V
 rw [hb] at V
 simp only at V
 rw [H] at V
 have hkl : (aF (fV E.a.msh (P2.snd E.a.msh.dflt E.a.sh.un E.a.msh.un a))).length = old.length := by
  rw [← H, n6, jA]
 let k1 : Ex → St → Option Unit := fun e st => if ∃ q, Ew P fn old e st = some q ∧ Fe E b (jZ old.length q) then some () else none
 have hlenA : (eX E.a.sh (P2.fst E.a.sh.dflt E.a.sh.un E.a.msh.un a)).length ≤ fn.ntmps := by
  rw [← aP, ← J.len, O]; exact nl.1 Y.2
 have K := Gg ht (KI hto) (n := n) (m := fn.ntmps) c Y.1.2 (R1 := Unit) (r1 := ()) (k1 := k1) hl (Gc (n := fn.ntmps) fun v hv => r9 hv)
  (by rw [yi, yg3, aP]; omega) V (fun e st' tmps' h1 h2 h3 => ?_)
 ·have A : rG (aF (fV E.a.msh (P2.snd E.a.msh.dflt E.a.sh.un E.a.msh.un a))) = old := (pA _).trans (H _)
  have := NK hC (La hm hC an) (n := n) hf hb (args := KV.downs (eX E.a.sh (P2.fst E.a.sh.dflt E.a.sh.un E.a.msh.un a))) (k1 := k1) (r1 := ()) (good := fun q => Fe E b (jZ old.length q)) (fun e st h => by
   rw [A]
   show ∃ q, Ew P fn old e st = some q ∧ Fe E b (jZ old.length q)
   by_cases Z : ∃ q, Ew P fn old e st = some q ∧ Fe E b (jZ old.length q)
   ·exact Z
   ·have h : (if ∃ q, Ew P fn old e st = some q ∧ Fe E b (jZ old.length q) then some () else none) = some () := h
    rw [if_neg Z] at h; cases h) (by rw [A, aP]; exact K) hM hg0 hv'
  refine this.mono fun e w' Z => ?_
  obtain ⟨q, hg, G', cv, he, z⟩ := Z
  obtain ⟨G2, z⟩ := z.settle
  rw [hkl] at z
  generalize jZ old.length q = q2 at hg z
  obtain ⟨qv, qm⟩ := q2
  obtain ⟨N, hg2⟩ := hg
  have N : qm = (Ad E b).2 := N
  subst N
  exact ⟨G2, cv, he, hg2 G2 w' cv z.memR.lab z.v, z.ev, z.mine, z.prot, z.new, z.memR, z.gens, z.kept, z.nones⟩
 ·obtain ⟨v, mm, h4, h5⟩ := H2 ht h2 h1
  have U : x8 true E.r .ret ⟨dP [0] [(pQ old.length v mm).1], (pQ old.length v mm).2⟩ = some b := by
   split at h4
   ·rename_i b' hb'
    rw [hb', yb h4]
   ·cases h4
  obtain ⟨g1, g2⟩ := Ef M.2 U
  refine if_pos ⟨_, h5, ?_⟩
  rw [I7]
  exact ⟨congrArg aF g1.symm, g2⟩
section
variable {tbl : FuncId → List aG} {loops : Nat → Option aL} {an : mR} {old : List (Option Bool)} {n : Nat} {c : Code}
theorem aM.ofS (hn : nI P = true) (hm : P.follows .mixedOrders = true) (ht : cF P tab) (hT : Bb P tbl) {f : FuncId} {fn : Func} (hf : P.funcs[f]? = some fn) (J : fn.body = some c) {E : aG}
  (H : NT fn c E = true) (A : dF ((e8 c 0).map (·.1)) = true) (z : ∀ d, e9 (fV E.a.msh d) = old) (hl : LT tab tbl loops an old n c loops)
  (h : ∀ a, KC (bI (eP E.r)) tab tbl loops an fn old.length E.a E.r a some = E.sh a) : aM P f E :=
 ⟨by simp only [NT, yc] at H; exact H.1.1, Fm hn hm ht (fun g => yx.2 fun E hE => (hT g E hE).1) (fun g E hE => (hT g E hE).2) hf J H z (hl.ok A) h⟩
end
end
end Go.Ab
