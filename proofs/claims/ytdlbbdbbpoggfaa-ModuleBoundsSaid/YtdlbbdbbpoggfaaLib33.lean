import Derived.Test.YtdlbbdbbpoggfaaLib28
set_option linter.unusedVariables false
set_option linter.unusedSectionVars false
set_option linter.unusedSimpArgs false
namespace Go.Ab
variable [b4]
variable {P : Program} {R : Type} {r : R} {tab : TypeId → Option TI} {mem : aD}
noncomputable section
mutual
def AV.frzD (m : Nat) (mem : aH) : AV → AV
 | .agg cs => .agg (AV.frzDs m mem cs)
 | .tup cs => .tup (AV.frzDs m mem cs)
 | .msw b g => AV.frz m mem (.msw b g)
 | v => v
def AV.frzDs (m : Nat) (mem : aH) : List AV → List AV
 | [] => []
 | v :: r => v.frzD m mem :: AV.frzDs m mem r
end
mutual
def KV.frzD (m : Nat) (mem : aD) : KV → KV
 | .agg cs => .agg (KV.frzDs m mem cs)
 | .tup cs => .tup (KV.frzDs m mem cs)
 | .msw b g => KV.frz m mem (.msw b g)
 | v => v
def KV.frzDs (m : Nat) (mem : aD) : List KV → List KV
 | [] => []
 | v :: r => v.frzD m mem :: KV.frzDs m mem r
end
def f7 (k : Nat) : jS := fun b g => bif Nat.blt b k then some (b, g) else none
def j0 (f : jS) : aH → aH
 | [] => []
 | some x :: r => some { x with row := x.row.ren f } :: j0 f r
 | none :: r => none :: j0 f r
def wC (f : jS) : aD → aD
 | [] => []
 | some x :: r => some ⟨x.gen, x.frz, x.row.ren f⟩ :: wC f r
 | none :: r => none :: wC f r
def kN (k : Nat) (q : AV × aH) : AV × aH :=
 bif fN k (q.1.frzD k q.2).refs && fN k (cE (q.2.take k)) then ((q.1.frzD k q.2).ren (f7 k), j0 (f7 k) (q.2.take k)) else q
def qA (k : Nat) (v : KV) (mem : aD) : KV × aD :=
 bif fN k (v.frzD k mem).refs && fN k (iA (mem.take k)) then ((v.frzD k mem).ren (f7 k), wC (f7 k) (mem.take k)) else (v, mem)
mutual
theorem G6 (m : Nat) (mem : aD) : ∀ v : KV, v.down.frzD m (aB mem) = (v.frzD m mem).down
 | .agg cs => by simp only [KV.down, AV.frzD, KV.frzD, y4 m mem cs]
 | .tup cs => by simp only [KV.down, AV.frzD, KV.frzD, y4 m mem cs]
 | .msw b g => Es m mem (.msw b g)
 | .lit v => by simp only [KV.down, AV.frzD, KV.frzD]
 | .tsl β ag T xs => by simp only [KV.down, AV.frzD, KV.frzD]
 | .el β ag T x c => by simp only [KV.down, AV.frzD, KV.frzD]
 | .ptr b g i c => by simp only [KV.down, AV.frzD, KV.frzD]
 | .ms b g o n => by simp only [KV.down, AV.frzD, KV.frzD]
 | .fn f fi ca => by simp only [KV.down, AV.frzD, KV.frzD]
 | .dead => by simp only [KV.down, AV.dead, AV.frzD, KV.frzD]
 | .gone => by simp only [KV.down, AV.goneV, AV.frzD, KV.frzD]
 | .unkB => by simp only [KV.down, AV.unkB, AV.frzD, KV.frzD]
theorem y4 (m : Nat) (mem : aD) : ∀ vs : List KV, AV.frzDs m (aB mem) (KV.downs vs) = KV.downs (KV.frzDs m mem vs)
 | [] => by simp only [KV.downs, AV.frzDs, KV.frzDs]
 | v :: vs => by simp only [KV.downs, AV.frzDs, KV.frzDs, G6 m mem v, y4 m mem vs]
end
theorem vN (f : jS) : ∀ mem : aD, j0 f (aB mem) = aB (wC f mem)
 | [] => rfl
 | none :: m => by
  have := vN f m
  simp only [aB, yx1, yh2, j0, wC] at this ⊢
  rw [this]
 | some x :: m => by
  have := vN f m
  simp only [aB, yx1, yg, j0, wC] at this ⊢
  rw [this]
  simp only [dE.down, C9]
theorem J8 (k : Nat) (v : KV) (mem : aD) : kN k (v.down, aB mem) = ((qA k v mem).1.down, aB (qA k v mem).2) := by
 unfold kN qA
 simp only [G6, Dt, gM, wR, u0, vN]
 cases fN k (KV.frzD k mem v).refs && fN k (iA (mem.take k)) <;> rfl
theorem oZ (m : Nat) (mem : aH) : ∀ vs : List AV, AV.frzDs m mem vs = vs.map (·.frzD m mem)
 | [] => by simp [AV.frzDs]
 | v :: vs => by simp [AV.frzDs, oZ m mem vs]
theorem KX {G : Gh} {w : World} {mem : aH} {m : Nat} {v : AV} {cv : Value} (hM : aF G w mem) (hv : VR G w v cv) : VR (G.frz (lH G mem m)) w (v.frzD m mem) cv := by
 have hg : c8 G (G.frz (lH G mem m)) := c8.frz G _ (by rintro B o ⟨b, x, L, _, U, I, hB⟩; exact hM.mine U I hB)
 have H := fun {a : AV} {u : Value} (h : VR G w a u) => h.mono hg (Ev.refl G w)
 induction hv with
 | lit v h => simp only [AV.frzD]; exact .lit v h
 | imm β p v h hs => simp only [AV.frzD]; exact H (.imm β p v h hs)
 | unkB b => simp only [AV.frzD]; exact .unkB b
 | dead v V Y => simp only [AV.frzD]; exact .dead v V Y
 | ptr b g i c L B I J => simp only [AV.frzD]; exact H (.ptr b g i c L B I J)
 | ms b g o n cap L B I J hn M N => simp only [AV.frzD]; exact H (.ms b g o n cap L B I J hn M N)
 | msNil b g L I J => simp only [AV.frzD]; exact H (.msNil b g L I J)
 | msZ b g o B oo L I J ho M => simp only [AV.frzD]; exact H (.msZ b g o B oo L I J ho M)
 | msw b g cap L B I J hn N => simp only [AV.frzD]; exact pB hM (.msw b g cap L B I J hn N)
 | mswNil b g L I J hn => simp only [AV.frzD]; exact pB hM (.mswNil b g L I J hn)
 | el β p c B o cv h hr => simp only [AV.frzD]; exact H (.el β p c B o cv h hr)
 | fn f Z ca fv cv V Y N hc ihf ihc => simp only [AV.frzD]; exact H (.fn f Z ca fv cv V Y N hc)
 | agg cs cvs K h W =>
  simp only [AV.frzD]
  refine .agg _ cvs (by rw [oZ]; simpa using K) (fun j y O => ?_)
  rw [oZ, yb1] at O
  obtain ⟨x, U, rfl⟩ := yc.1 O
  exact W j x U
 | tup cs cvs K h W =>
  simp only [AV.frzD]
  refine .tup _ cvs (by rw [oZ]; simpa using K) (fun j y O => ?_)
  rw [oZ, yb1] at O
  obtain ⟨x, U, rfl⟩ := yc.1 O
  exact W j x U
theorem jT (f : jS) : ∀ (m : aH) (j : Nat), (j0 f m)[j]? = (m[j]?).map fun o => o.map fun x => { x with row := x.row.ren f }
 | [], j => by simp [j0]
 | some x :: m, 0 => rfl
 | none :: m, 0 => rfl
 | some x :: m, j + 1 => by simp only [j0, yd1]; exact jT f m j
 | none :: m, j + 1 => by simp only [j0, yd1]; exact jT f m j
theorem NY.settle {G : Gh} {w : World} {m : aH} {q : AV × aH} {N : Gh} {w' : World} {cv : Value} (h : NY G w m q N w' cv) : ∃ G2, NY G w m (kN m.length q) G2 w' cv := by
 unfold kN
 cases hc : (fN m.length (q.1.frzD m.length q.2).refs && fN m.length (cE (q.2.take m.length))) with
 | false => exact ⟨N, h⟩
 | true =>
  simp only [yl]
  obtain ⟨hv, hev, hmine, hprot, hnew, hM, hgens, hkept, hnones⟩ := h
  have hg : c8 N (N.frz (lH N q.2 m.length)) := c8.frz N _ (by rintro B o ⟨b, x, L, _, H, W, hB⟩; exact hM.mine H W hB)
  let G2 : Gh := { loc := fun b g => if b < m.length then N.loc b g else none, prot := fun β B o => N.prot β B o ∨ lH N q.2 m.length B o, mine := N.mine }
  have J : ∀ {b g : Nat}, b < m.length → G2.loc b g = N.loc b g := fun M => if_pos M
  have hro : BZ (N.frz (lH N q.2 m.length)) G2 (f7 m.length) := by
   intro b g p L K hL
   unfold f7 at K
   cases M : Nat.blt b m.length with
   | false => rw [M] at K; cases K
   | true =>
    rw [M] at K
    obtain rfl := ya K
    rw [Nat.blt_eq] at M
    show G2.loc b g = some L
    rw [J M]; exact hL
  have I : ∀ {j : Nat} {y : a9}, (j0 (f7 m.length) (q.2.take m.length))[j]? = some (some y) → j < m.length ∧ ∃ x, q.2[j]? = some (some x) ∧ y = { x with row := x.row.ren (f7 m.length) } := by
   intro j y O
   rw [jT, yj1] at O
   by_cases hj : j < m.length
   ·rw [if_pos hj] at O
    obtain ⟨o, ho, hoy⟩ := yc.1 O
    cases o with
    | none => cases hoy
    | some x => exact ⟨hj, x, ho, (ya hoy).symm⟩
   ·rw [if_neg hj] at O; cases O
  refine ⟨G2, ?_, hev, hmine, fun β B o K => .inl (hprot β B o K), ?_, ?_, ?_, ?_, ?_⟩
  ·exact (KX hM hv).ren (l := true) hro (fun β B o _ K => K) (fun _ => rfl)
  ·rintro β B o (K | ⟨b, x, L, _, H, W, hB⟩)
   ·exact hnew β B o K
   ·exact .inr (hmine ▸ hM.mine H W hB)
  ·have Y : ∀ {b : Nat} {x : a9} {B : Nat}, b < m.length → eK G2 b { x with row := x.row.ren (f7 m.length) } B → eK N b x B := by
    rintro b x B M ⟨L, W, hB⟩
    exact ⟨L, by rw [← J M]; exact W, hB⟩
   refine ⟨?_, ?_, ?_, ?_, ?_, ?_, hM.own, fun B o K => K.imp (hM.lab B o) id, ?_, hM.glob.mono (fun _ _ h => .inl h) fun _ _ _ => rfl⟩
   ·intro b y O
    obtain ⟨M, x, H, rfl⟩ := I O
    have hbx := hM.box b x H
    obtain ⟨o, W, hmm⟩ := hbx.loc
    refine ⟨by rw [mB]; exact hbx.e, o, by rw [J M, mB, iW]; exact W, ?_⟩
    cases o with
    | none => exact ⟨by rw [iW]; exact hmm.1, by rw [dC]; exact hmm.2⟩
    | some B =>
     obtain ⟨h1, h2, h3, h4, h5⟩ := hmm
     have hBk : eK N b x B := ⟨_, W, rfl⟩
     have hin : ∀ i c B', cP w' B x.row i c B' → N.mine B' ∧ ∀ β o, ¬ (N.prot β B' o ∨ lH N q.2 m.length B' o) := by
      intro i c B' hi
      obtain ⟨m1, m2, m3, m4⟩ := hM.inn H hBk hi
      refine ⟨m1, fun β o K => ?_⟩
      rcases K with K | ⟨b', x', L', _, V, U, hB'⟩
      ·exact m4 β o K
      ·exact hM.inA b b' x x' B i c B' H hBk hi V ⟨L', U, hB'⟩
     have hrow : gH (N.frz (lH N q.2 m.length)) w' B x.row := h4.mono hg (Ev.refl N w') (fun _ _ => rfl) (fun i c B' hi => ⟨⟨fun _ => rfl, id⟩, (hin i c B' hi).2⟩)
     refine ⟨h1, h2, h3, hrow.ren (l := true) hro (fun β B o _ K => K) (fun _ => rfl) hin, fun hf β o K => ?_⟩
     rcases K with K | ⟨b', x', L', Z, V, U, hB'⟩
     ·exact h5 hf β o K
     ·have := hM.apart b b' x x' _ L' B H V W U rfl hB'
      omega
   ·intro b g hn
    by_cases M : b < m.length
    ·rw [J M]
     refine hM.unset b g fun x H => hn { x with row := x.row.ren (f7 m.length) } ?_
     rw [jT, yj1, if_pos M, H]; rfl
    ·exact if_neg M
   ·intro b y g O hlt
    obtain ⟨M, x, H, rfl⟩ := I O
    rw [J M]
    exact hM.gens b x g H hlt
   ·intro b b' y y' L L' B O hy' W U hB hB'
    obtain ⟨M, x, H, rfl⟩ := I O
    obtain ⟨Z, x', V, rfl⟩ := I hy'
    rw [J M] at W
    rw [J Z] at U
    exact hM.apart b b' x x' L L' B H V W U hB hB'
   ·intro b b' y y' B i c B' O k hi hy' k'
    obtain ⟨M, x, H, rfl⟩ := I O
    obtain ⟨Z, x', V, rfl⟩ := I hy'
    exact hM.inA b b' x x' B i c B' H (Y M k) (cP.ren.1 hi) V (Y Z k')
   ·intro b b' y y' B C i c i' c' B' O k hi hy' k' hi'
    obtain ⟨M, x, H, rfl⟩ := I O
    obtain ⟨Z, x', V, rfl⟩ := I hy'
    exact hM.inB b b' x x' B C i c i' c' B' H (Y M k) (cP.ren.1 hi) V (Y Z k') (cP.ren.1 hi')
   ·rintro β B o (K | ⟨b, x, L, _, H, W, hB⟩)
    ·exact hM.away β B o K
    ·obtain ⟨oo, U, hmm⟩ := (hM.box b x H).loc
     rw [W] at U
     obtain rfl := ya U
     simp only at hB; subst hB
     exact hmm.2.1
  ·intro j y hj O
   obtain ⟨_, x, H, rfl⟩ := I O
   exact hgens j x (hj.imp id fun h => by rw [← dC (f := f7 m.length)]; exact h) H
  ·intro j x H
   have hj : j < m.length := by
    rcases yc2 j m.length with h | h
    ·exact h
    ·rw [ya1 h] at H; cases H
   obtain ⟨y, O, hk, W⟩ := hkept j x H
   refine ⟨{ y with row := y.row.ren (f7 m.length) }, ?_, by rw [dC]; exact hk, fun L hL => ?_⟩
   ·show (j0 (f7 m.length) (q.2.take m.length))[j]? = _
    rw [jT, yj1, if_pos hj, O]; rfl
   ·rw [J hj]; exact W L hL
  ·intro j H
   have hj : j < m.length := by
    rcases yc2 j m.length with h | h
    ·exact h
    ·rw [ya1 h] at H; cases H
   show (j0 (f7 m.length) (q.2.take m.length))[j]? = _
   rw [jT, yj1, if_pos hj, hnones j H]; rfl
def LM {R : Type} (I : PM R) (tab : TypeId → Option TI) (tbl : FuncId → List aC) (loops : Nat → Option aL) (an : lA) (fn : Func) (k0 : Nat) (a : jD) (rr : List jD) (d : a.den) (k : eN rr → Option R) : Option R :=
 Ot I tab tbl loops an fn (c9 a.sh (P2.fst a.sh.dflt _ _ d)) (e8 a.msh (P2.snd a.msh.dflt _ _ d)) fun v mem =>
  match rX true rr .ret ⟨dP [0] [(qA k0 v mem).1], (qA k0 v mem).2⟩ with
  | some b => k b
  | none => none
theorem n6 : ∀ mem : aD, (e7 mem).length = mem.length
 | [] => rfl
 | none :: m => by simp only [e7, yg2, n6 m]
 | some x :: m => by simp only [e7, yg2, n6 m]
open Classical in
theorem F7 (hn : m9 P = true) (hm : P.follows .mixedOrders = true) (ht : bI P tab) {tbl : FuncId → List aC} (hto : ∀ g, (tbl g).all J7 = true) (htb : ∀ g, ∀ E ∈ tbl g, pL P g E)
  {f : FuncId} {fn : Func} (hf : P.funcs[f]? = some fn) {c : Code} (hb : fn.body = some c) {E : aC} (Z : Om fn c E = true) {an : lA} {loops : Nat → Option aL} {old : List (Option Bool)} {n : Nat}
  (J : ∀ d, e7 (e8 E.a.msh d) = old) (hl : pN tab tbl loops an old n c 0) (V : ∀ a, LM (aP (eN E.r)) tab tbl loops an fn old.length E.a E.r a some = E.sh a) : pL P f E := by
 intro a b hab G w as m vargs hle hM hg0 hv
 refine ⟨qM hf hn (by rw [hb]; rfl), ?_⟩
 simp only [Om, yb] at Z
 have O := Z.1.1
 simp only [J7, yb] at O
 obtain ⟨U, hls, rfl⟩ := hle
 have hC := zC htb
 have K := lC.all (w := w) hM.lab O.1.1.1 hls
 have hv' := K.vrs hv
 have hr := (V a).trans hab
 unfold LM Ot at hr
 rw [hb] at hr
 simp only at hr
 rw [J] at hr
 have hkl : (aB (e8 E.a.msh (P2.snd E.a.msh.dflt E.a.sh.un E.a.msh.un a))).length = old.length := by
  rw [← J, n6, d8]
 let k1 : Ex → St → Option Unit := fun e st => if ∃ q, FT P fn old e st = some q ∧ F6 E b (kN old.length q) then some () else none
 have hlenA : (c9 E.a.sh (P2.fst E.a.sh.dflt E.a.sh.un E.a.msh.un a)).length ≤ fn.ntmps := by
  rw [← aG, ← K.len, U]; exact nl.1 Z.2
 have M := BH ht (HQ hto) (n := n) (m := fn.ntmps) c Z.1.2 (R1 := Unit) (r1 := ()) (k1 := k1) hl (BR (n := fn.ntmps) fun v hv => oL hv)
  (by rw [yi1, yv2, aG]; omega) hr (fun e st' tmps' h1 h2 h3 => ?_)
 ·have I : i9 (aB (e8 E.a.msh (P2.snd E.a.msh.dflt E.a.sh.un E.a.msh.un a))) = old := (j9 _).trans (J _)
  have := NT hC (AI hm hC an) (n := n) hf hb (args := KV.downs (c9 E.a.sh (P2.fst E.a.sh.dflt E.a.sh.un E.a.msh.un a))) (k1 := k1) (r1 := ()) (good := fun q => F6 E b (kN old.length q)) (fun e st h => by
   rw [I]
   show ∃ q, FT P fn old e st = some q ∧ F6 E b (kN old.length q)
   by_cases Y : ∃ q, FT P fn old e st = some q ∧ F6 E b (kN old.length q)
   ·exact Y
   ·have h : (if ∃ q, FT P fn old e st = some q ∧ F6 E b (kN old.length q) then some () else none) = some () := h
    rw [if_neg Y] at h; cases h) (by rw [I, aG]; exact M) hM hg0 hv'
  refine this.mono fun e w' Y => ?_
  obtain ⟨q, hg, G', cv, he, H⟩ := Y
  obtain ⟨G2, H⟩ := H.settle
  rw [hkl] at H
  generalize kN old.length q = q2 at hg H
  obtain ⟨qv, qm⟩ := q2
  obtain ⟨N, hg2⟩ := hg
  have N : qm = (zZ E b).2 := N
  subst N
  exact ⟨G2, cv, he, hg2 G2 w' cv H.memR.lab H.v, H.ev, H.mine, H.prot, H.new, H.memR, H.gens, H.kept, H.nones⟩
 ·obtain ⟨v, mm, h4, h5⟩ := Jj ht h2 h1
  have W : rX true E.r .ret ⟨dP [0] [(qA old.length v mm).1], (qA old.length v mm).2⟩ = some b := by
   split at h4
   ·rename_i b' hb'
    rw [hb', ya h4]
   ·cases h4
  obtain ⟨g1, g2⟩ := Ec O.2 W
  refine if_pos ⟨_, h5, ?_⟩
  rw [J8]
  exact ⟨congrArg aB g1.symm, g2⟩
section
variable {tbl : FuncId → List aC} {loops : Nat → Option aL} {an : lA} {old : List (Option Bool)} {n : Nat} {c : Code}
theorem aW.ofS (hn : m9 P = true) (hm : P.follows .mixedOrders = true) (ht : bI P tab) (hT : rH P tbl) {f : FuncId} {fn : Func} (O : P.funcs[f]? = some fn) (M : fn.body = some c) {E : aC}
  (J : Om fn c E = true) (K : dR ((fK c 0).map (·.1)) = true) (I : ∀ d, e7 (e8 E.a.msh d) = old) (N : LT tab tbl loops an old n c loops)
  (H : ∀ a, LM (aP (eN E.r)) tab tbl loops an fn old.length E.a E.r a some = E.sh a) : aW P f E :=
 ⟨by simp only [Om, yb] at J; exact J.1.1, F7 hn hm ht (fun g => yr1.2 fun E hE => (hT g E hE).1) (fun g E hE => (hT g E hE).2) O M J I (N.ok K) H⟩
end
end
end Go.Ab
