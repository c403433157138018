import Derived.Test.YtdlbbdbbpoggfaaGreatDoorLib27
set_option linter.unusedVariables false
set_option linter.unusedSectionVars false
set_option linter.unusedSimpArgs false
namespace Go.Ab
variable [cD]
variable {P : Program} {R : Type} {r : R} {tab : TypeId → Option TI} {mem : aR}
noncomputable section
mutual
def AV.frzD (m : Nat) (mem : a9) : AV → AV
 | .agg cs => .agg (AV.frzDs m mem cs)
 | .tup cs => .tup (AV.frzDs m mem cs)
 | .msw b g => AV.frz m mem (.msw b g)
 | v => v
def AV.frzDs (m : Nat) (mem : a9) : List AV → List AV
 | [] => []
 | v :: r => v.frzD m mem :: AV.frzDs m mem r
end
mutual
def KV.frzD (m : Nat) (mem : aR) : KV → KV
 | .agg cs => .agg (KV.frzDs m mem cs)
 | .tup cs => .tup (KV.frzDs m mem cs)
 | .msw b g => KV.frz m mem (.msw b g)
 | v => v
def KV.frzDs (m : Nat) (mem : aR) : List KV → List KV
 | [] => []
 | v :: r => v.frzD m mem :: KV.frzDs m mem r
end
def g7 (k : Nat) : lI := fun b g => bif Nat.blt b k then some (b, g) else none
def jL (f : lI) : a9 → a9
 | [] => []
 | some x :: r => some { x with row := x.row.ren f } :: jL f r
 | none :: r => none :: jL f r
def r5 (f : lI) : aR → aR
 | [] => []
 | some x :: r => some ⟨x.gen, x.frz, x.row.ren f⟩ :: r5 f r
 | none :: r => none :: r5 f r
def jU (k : Nat) (q : AV × a9) : AV × a9 :=
 bif fI k (q.1.frzD k q.2).refs && fI k (lE (q.2.take k)) then ((q.1.frzD k q.2).ren (g7 k), jL (g7 k) (q.2.take k)) else q
def pQ (k : Nat) (v : KV) (mem : aR) : KV × aR :=
 bif fI k (v.frzD k mem).refs && fI k (mF (mem.take k)) then ((v.frzD k mem).ren (g7 k), r5 (g7 k) (mem.take k)) else (v, mem)
mutual
theorem Gc (m : Nat) (mem : aR) : ∀ v : KV, v.down.frzD m (aF mem) = (v.frzD m mem).down
 | .agg cs => by simp only [KV.down, AV.frzD, KV.frzD, v8 m mem cs]
 | .tup cs => by simp only [KV.down, AV.frzD, KV.frzD, v8 m mem cs]
 | .msw b g => Eh m mem (.msw b g)
 | .lit v => by simp only [KV.down, AV.frzD, KV.frzD]
 | .tsl β ag T xs => by simp only [KV.down, AV.frzD, KV.frzD]
 | .el β ag T x c => by simp only [KV.down, AV.frzD, KV.frzD]
 | .ptr b g i c => by simp only [KV.down, AV.frzD, KV.frzD]
 | .ms b g o n => by simp only [KV.down, AV.frzD, KV.frzD]
 | .fn f fi ca => by simp only [KV.down, AV.frzD, KV.frzD]
 | .dead => by simp only [KV.down, AV.dead, AV.frzD, KV.frzD]
 | .gone => by simp only [KV.down, AV.goneV, AV.frzD, KV.frzD]
 | .unkB => by simp only [KV.down, AV.unkB, AV.frzD, KV.frzD]
theorem v8 (m : Nat) (mem : aR) : ∀ vs : List KV, AV.frzDs m (aF mem) (KV.downs vs) = KV.downs (KV.frzDs m mem vs)
 | [] => by simp only [KV.downs, AV.frzDs, KV.frzDs]
 | v :: vs => by simp only [KV.downs, AV.frzDs, KV.frzDs, Gc m mem v, v8 m mem vs]
end
theorem qN (f : lI) : ∀ mem : aR, jL f (aF mem) = aF (r5 f mem)
 | [] => rfl
 | none :: m => by
  have := qN f m
  simp only [aF, yh2, Option.map_none, jL, r5] at this ⊢
  rw [this]
 | some x :: m => by
  have := qN f m
  simp only [aF, yh2, yo, jL, r5] at this ⊢
  rw [this]
  simp only [fG.down, Ch]
theorem HY (k : Nat) (v : KV) (mem : aR) : jU k (v.down, aF mem) = ((pQ k v mem).1.down, aF (pQ k v mem).2) := by
 unfold jU pQ
 simp only [Gc, Cx, lA, AG, zE, qN]
 cases fI k (KV.frzD k mem v).refs && fI k (mF (mem.take k)) <;> rfl
theorem oM (m : Nat) (mem : a9) : ∀ vs : List AV, AV.frzDs m mem vs = vs.map (·.frzD m mem)
 | [] => by simp [AV.frzDs]
 | v :: vs => by simp [AV.frzDs, oM m mem vs]
theorem Ki {G : Gh} {w : World} {mem : a9} {m : Nat} {v : AV} {cv : Value} (hM : aT G w mem) (O : VR G w v cv) : VR (G.frz (l7 G mem m)) w (v.frzD m mem) cv := by
 have N : d9 G (G.frz (l7 G mem m)) := d9.frz G _ (by rintro B o ⟨b, x, L, _, hx, hl, hB⟩; exact hM.mine hx hl hB)
 have z := fun {a : AV} {u : Value} (h : VR G w a u) => h.mono N (Ev.refl G w)
 induction O with
 | lit v h => simp only [AV.frzD]; exact .lit v h
 | imm β p v h V => simp only [AV.frzD]; exact z (.imm β p v h V)
 | unkB b => simp only [AV.frzD]; exact .unkB b
 | dead v h1 h2 => simp only [AV.frzD]; exact .dead v h1 h2
 | ptr b g i c L B hl H => simp only [AV.frzD]; exact z (.ptr b g i c L B hl H)
 | ms b g o n cap L B hl H hn J hf => simp only [AV.frzD]; exact z (.ms b g o n cap L B hl H hn J hf)
 | msNil b g L hl H => simp only [AV.frzD]; exact z (.msNil b g L hl H)
 | msZ b g o B U L hl H Y J => simp only [AV.frzD]; exact z (.msZ b g o B U L hl H Y J)
 | msw b g cap L B hl H hn hf => simp only [AV.frzD]; exact n8 hM (.msw b g cap L B hl H hn hf)
 | mswNil b g L hl H hn => simp only [AV.frzD]; exact n8 hM (.mswNil b g L hl H hn)
 | el β p c B o cv h hr => simp only [AV.frzD]; exact z (.el β p c B o cv h hr)
 | fn f fi ca Z cv h1 h2 hf hc ihf W => simp only [AV.frzD]; exact z (.fn f fi ca Z cv h1 h2 hf hc)
 | agg cs cvs A h M =>
  simp only [AV.frzD]
  refine .agg _ cvs (by rw [oM]; simpa using A) (fun j y K => ?_)
  rw [oM, yh1] at K
  obtain ⟨x, hx, rfl⟩ := yf.1 K
  exact M j x hx
 | tup cs cvs A h M =>
  simp only [AV.frzD]
  refine .tup _ cvs (by rw [oM]; simpa using A) (fun j y K => ?_)
  rw [oM, yh1] at K
  obtain ⟨x, hx, rfl⟩ := yf.1 K
  exact M j x hx
theorem jR (f : lI) : ∀ (m : a9) (j : Nat), (jL f m)[j]? = (m[j]?).map fun o => o.map fun x => { x with row := x.row.ren f }
 | [], j => by simp [jL]
 | some x :: m, 0 => rfl
 | none :: m, 0 => rfl
 | some x :: m, j + 1 => by simp only [jL, yx1]; exact jR f m j
 | none :: m, j + 1 => by simp only [jL, yx1]; exact jR f m j
theorem Pa.settle {G : Gh} {w : World} {m : a9} {q : AV × a9} {K : Gh} {w' : World} {cv : Value} (h : Pa G w m q K w' cv) : ∃ G2, Pa G w m (jU m.length q) G2 w' cv := by
 unfold jU
 cases hc : (fI m.length (q.1.frzD m.length q.2).refs && fI m.length (lE (q.2.take m.length))) with
 | false => exact ⟨K, h⟩
 | true =>
  simp only [yg]
  obtain ⟨hv, hev, O, hprot, hnew, hM, Z, Y, V⟩ := h
  have hg : d9 K (K.frz (l7 K q.2 m.length)) := d9.frz K _ (by rintro B o ⟨b, x, L, _, hx, hl, hB⟩; exact hM.mine hx hl hB)
  let G2 : Gh := { loc := fun b g => if b < m.length then K.loc b g else none, prot := fun β B o => K.prot β B o ∨ l7 K q.2 m.length B o, mine := K.mine }
  have z : ∀ {b g : Nat}, b < m.length → G2.loc b g = K.loc b g := fun J => if_pos J
  have hro : Bw (K.frz (l7 K q.2 m.length)) G2 (g7 m.length) := by
   intro b g p L A hL
   unfold g7 at A
   cases J : Nat.blt b m.length with
   | false => rw [J] at A; cases A
   | true =>
    rw [J] at A
    obtain rfl := yb A
    rw [Nat.blt_eq] at J
    show G2.loc b g = some L
    rw [z J]; exact hL
  have H : ∀ {j : Nat} {y : d8}, (jL (g7 m.length) (q.2.take m.length))[j]? = some (some y) → j < m.length ∧ ∃ x, q.2[j]? = some (some x) ∧ y = { x with row := x.row.ren (g7 m.length) } := by
   intro j y M
   rw [jR, yo2] at M
   by_cases W : j < m.length
   ·rw [if_pos W] at M
    obtain ⟨o, ho, hoy⟩ := yf.1 M
    cases o with
    | none => cases hoy
    | some x => exact ⟨W, x, ho, (yb hoy).symm⟩
   ·rw [if_neg W] at M; cases M
  refine ⟨G2, ?_, hev, O, fun β B o A => .inl (hprot β B o A), ?_, ?_, ?_, ?_, ?_⟩
  ·exact (Ki hM hv).ren (l := true) hro (fun β B o _ A => A) (fun _ => rfl)
  ·rintro β B o (A | ⟨b, x, L, _, hx, hl, hB⟩)
   ·exact hnew β B o A
   ·exact .inr (O ▸ hM.mine hx hl hB)
  ·refine ⟨?_, ?_, ?_, ?_, hM.own, fun B o A => A.imp (hM.lab B o) id, ?_, hM.glob.mono (fun _ _ h => .inl h) fun _ _ _ => rfl⟩
   ·intro b y M
    obtain ⟨J, x, hx, rfl⟩ := H M
    have hbx := hM.box b x hx
    obtain ⟨o, hl, U⟩ := hbx.loc
    refine ⟨by rw [lK]; exact hbx.e, o, by rw [z J, lK, iQ]; exact hl, ?_⟩
    cases o with
    | none => exact ⟨by rw [iQ]; exact U.1, by rw [eD]; exact U.2⟩
    | some B =>
     obtain ⟨h1, h2, h3, h4, h5⟩ := U
     have hrow : o4 (K.frz (l7 K q.2 m.length)) w' B x.row := h4.mono hg (Ev.refl K w') (fun _ _ => rfl)
     refine ⟨h1, h2, h3, hrow.ren (l := true) hro (fun β B o _ A => A) (fun _ => rfl), fun hf β o A => ?_⟩
     rcases A with A | ⟨b', x', L', hb', hx', N, hB'⟩
     ·exact h5 hf β o A
     ·have := hM.apart b b' x x' _ L' B hx hx' hl N rfl hB'
      omega
   ·intro b g hn
    by_cases J : b < m.length
    ·rw [z J]
     refine hM.unset b g fun x hx => hn { x with row := x.row.ren (g7 m.length) } ?_
     rw [jR, yo2, if_pos J, hx]; rfl
    ·exact if_neg J
   ·intro b y g M hlt
    obtain ⟨J, x, hx, rfl⟩ := H M
    rw [z J]
    exact hM.gens b x g hx hlt
   ·intro b b' y y' L L' B M hy' hl N hB hB'
    obtain ⟨J, x, hx, rfl⟩ := H M
    obtain ⟨hb', x', hx', rfl⟩ := H hy'
    rw [z J] at hl
    rw [z hb'] at N
    exact hM.apart b b' x x' L L' B hx hx' hl N hB hB'
   ·rintro β B o (A | ⟨b, x, L, _, hx, hl, hB⟩)
    ·exact hM.away β B o A
    ·obtain ⟨oo, N, U⟩ := (hM.box b x hx).loc
     rw [hl] at N
     obtain rfl := yb N
     simp only at hB; subst hB
     exact U.2.1
  ·intro j y M
   obtain ⟨_, x, hx, rfl⟩ := H M
   exact Z j x hx
  ·intro j x hx
   have W : j < m.length := by
    rcases yz1 j m.length with h | h
    ·exact h
    ·rw [ya1 h] at hx; cases hx
   obtain ⟨y, M, hk, hl⟩ := Y j x hx
   refine ⟨{ y with row := y.row.ren (g7 m.length) }, ?_, by rw [eD]; exact hk, fun hc L hL => ?_⟩
   ·show (jL (g7 m.length) (q.2.take m.length))[j]? = _
    rw [jR, yo2, if_pos W, M]; rfl
   ·rw [z W]; exact hl hc L hL
  ·intro j hx
   have W : j < m.length := by
    rcases yz1 j m.length with h | h
    ·exact h
    ·rw [ya1 h] at hx; cases hx
   show (jL (g7 m.length) (q.2.take m.length))[j]? = _
   rw [jR, yo2, if_pos W, V j hx]; rfl
def K1 {R : Type} (I : PX R) (tab : TypeId → Option TI) (tbl : FuncId → List aG) (loops : Nat → Option aK) (an : mQ) (fn : Func) (k0 : Nat) (a : kX) (rr : List kX) (d : a.den) (k : eP rr → Option R) : Option R :=
 Od I tab tbl loops an fn (eY a.sh (P2.fst a.sh.dflt _ _ d)) (fV a.msh (P2.snd a.msh.dflt _ _ d)) fun v mem =>
  match z4 true rr .ret ⟨dP [0] [(pQ k0 v mem).1], (pQ k0 v mem).2⟩ with
  | some b => k b
  | none => none
theorem nV : ∀ mem : aR, (eX mem).length = mem.length
 | [] => rfl
 | none :: m => by simp only [eX, ye1, nV m]
 | some x :: m => by simp only [eX, ye1, nV m]
open Classical in
theorem Fc (hn : nE P = true) (hm : P.follows .mixedOrders = true) (ht : cF P tab) {tbl : FuncId → List aG} (hto : ∀ g, (tbl g).all K3 = true) (htb : ∀ g, ∀ E ∈ tbl g, sH P g E)
  {f : FuncId} {fn : Func} (hf : P.funcs[f]? = some fn) {c : Code} (hb : fn.body = some c) {E : aG} (Y : NR fn c E = true) {an : mQ} {loops : Nat → Option aK} {old : List (Option Bool)} {n : Nat}
  (H : ∀ d, eX (fV E.a.msh d) = old) (hl : sX tab tbl loops an old n c 0) (O : ∀ a, K1 (bI (eP E.r)) tab tbl loops an fn old.length E.a E.r a some = E.sh a) : sH P f E := by
 intro a b hab G w as m vargs hle hM hg0 hv
 refine ⟨zM hf hn (by rw [hb]; rfl), ?_⟩
 simp only [NR, yc] at Y
 have N := Y.1.1
 simp only [K3, yc] at N
 obtain ⟨V, hls, rfl⟩ := hle
 have hC := E0 htb
 have J := mL.all (w := w) hM.lab N.1.1.1 hls
 have hv' := J.vrs hv
 have W := (O a).trans hab
 unfold K1 Od at W
 rw [hb] at W
 simp only at W
 rw [H] at W
 have hkl : (aF (fV E.a.msh (P2.snd E.a.msh.dflt E.a.sh.un E.a.msh.un a))).length = old.length := by
  rw [← H, nV, iY]
 let k1 : Ex → St → Option Unit := fun e st => if ∃ q, CV P fn old e st = some q ∧ Fh E b (jU old.length q) then some () else none
 have hlenA : (eY E.a.sh (P2.fst E.a.sh.dflt E.a.sh.un E.a.msh.un a)).length ≤ fn.ntmps := by
  rw [← aQ, ← J.len, V]; exact nl.1 Y.2
 have M := Fs ht (K9 hto) (n := n) (m := fn.ntmps) c Y.1.2 (R1 := Unit) (r1 := ()) (k1 := k1) hl (FZ (n := fn.ntmps) fun v hv => sZ hv)
  (by rw [yi, yg3, aQ]; omega) W (fun e st' tmps' h1 h2 h3 => ?_)
 ·have A : rT (aF (fV E.a.msh (P2.snd E.a.msh.dflt E.a.sh.un E.a.msh.un a))) = old := (o8 _).trans (H _)
  have := NN hC (KS hm hC an) (n := n) hf hb (args := KV.downs (eY E.a.sh (P2.fst E.a.sh.dflt E.a.sh.un E.a.msh.un a))) (k1 := k1) (r1 := ()) (good := fun q => Fh E b (jU old.length q)) (fun e st h => by
   rw [A]
   show ∃ q, CV P fn old e st = some q ∧ Fh E b (jU old.length q)
   by_cases Z : ∃ q, CV P fn old e st = some q ∧ Fh E b (jU old.length q)
   ·exact Z
   ·have h : (if ∃ q, CV P fn old e st = some q ∧ Fh E b (jU old.length q) then some () else none) = some () := h
    rw [if_neg Z] at h; cases h) (by rw [A, aQ]; exact M) hM hg0 hv'
  refine this.mono fun e w' Z => ?_
  obtain ⟨q, hg, G', cv, he, z⟩ := Z
  obtain ⟨G2, z⟩ := z.settle
  rw [hkl] at z
  generalize jU old.length q = q2 at hg z
  obtain ⟨qv, qm⟩ := q2
  obtain ⟨K, hg2⟩ := hg
  have K : qm = (yL E b).2 := K
  subst K
  exact ⟨G2, cv, he, hg2 G2 w' cv z.memR.lab z.v, z.ev, z.mine, z.prot, z.new, z.memR, z.gens, z.kept, z.nones⟩
 ·obtain ⟨v, mm, h4, h5⟩ := HO ht h2 h1
  have U : z4 true E.r .ret ⟨dP [0] [(pQ old.length v mm).1], (pQ old.length v mm).2⟩ = some b := by
   split at h4
   ·rename_i b' hb'
    rw [hb', yb h4]
   ·cases h4
  obtain ⟨g1, g2⟩ := D6 N.2 U
  refine if_pos ⟨_, h5, ?_⟩
  rw [HY]
  exact ⟨congrArg aF g1.symm, g2⟩
section
variable {tbl : FuncId → List aG} {loops : Nat → Option aK} {an : mQ} {old : List (Option Bool)} {n : Nat} {c : Code}
theorem aM.ofS (hn : nE P = true) (hm : P.follows .mixedOrders = true) (ht : cF P tab) (hT : Ba P tbl) {f : FuncId} {fn : Func} (hf : P.funcs[f]? = some fn) (J : fn.body = some c) {E : aG}
  (A : NR fn c E = true) (H : dB ((fD c 0).map (·.1)) = true) (z : ∀ d, eX (fV E.a.msh d) = old) (hl : LT tab tbl loops an old n c loops)
  (h : ∀ a, K1 (bI (eP E.r)) tab tbl loops an fn old.length E.a E.r a some = E.sh a) : aM P f E :=
 ⟨by simp only [NR, yc] at A; exact A.1.1, Fc hn hm ht (fun g => yx.2 fun E hE => (hT g E hE).1) (fun g E hE => (hT g E hE).2) hf J A z (hl.ok H) h⟩
end
end
end Go.Ab
