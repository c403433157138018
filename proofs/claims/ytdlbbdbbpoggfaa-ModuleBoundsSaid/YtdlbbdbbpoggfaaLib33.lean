import Derived.Test.YtdlbbdbbpoggfaaLib28
set_option linter.unusedVariables false
set_option linter.unusedSectionVars false
set_option linter.unusedSimpArgs false
namespace Go.Ab
variable [b4]
variable {P : Program} {R : Type} {r : R} {tab : TypeId → Option TI} {mem : aD}
noncomputable section
mutual
def AV.frzD (m : Nat) (mem : aH) : AV → AV
 | .agg cs => .agg (AV.frzDs m mem cs)
 | .tup cs => .tup (AV.frzDs m mem cs)
 | .msw b g => AV.frz m mem (.msw b g)
 | v => v
def AV.frzDs (m : Nat) (mem : aH) : List AV → List AV
 | [] => []
 | v :: r => v.frzD m mem :: AV.frzDs m mem r
end
mutual
def KV.frzD (m : Nat) (mem : aD) : KV → KV
 | .agg cs => .agg (KV.frzDs m mem cs)
 | .tup cs => .tup (KV.frzDs m mem cs)
 | .msw b g => KV.frz m mem (.msw b g)
 | v => v
def KV.frzDs (m : Nat) (mem : aD) : List KV → List KV
 | [] => []
 | v :: r => v.frzD m mem :: KV.frzDs m mem r
end
def f0 (k : Nat) : jV := fun b g => bif Nat.blt b k then some (b, g) else none
def j2 (f : jV) : aH → aH
 | [] => []
 | some x :: r => some { x with row := x.row.ren f } :: j2 f r
 | none :: r => none :: j2 f r
def wJ (f : jV) : aD → aD
 | [] => []
 | some x :: r => some ⟨x.gen, x.frz, x.row.ren f⟩ :: wJ f r
 | none :: r => none :: wJ f r
def kN (k : Nat) (q : AV × aH) : AV × aH :=
 bif fN k (q.1.frzD k q.2).refs && fN k (b9 (q.2.take k)) then ((q.1.frzD k q.2).ren (f0 k), j2 (f0 k) (q.2.take k)) else q
def p3 (k : Nat) (v : KV) (mem : aD) : KV × aD :=
 bif fN k (v.frzD k mem).refs && fN k (h8 (mem.take k)) then ((v.frzD k mem).ren (f0 k), wJ (f0 k) (mem.take k)) else (v, mem)
mutual
theorem GV (m : Nat) (mem : aD) : ∀ v : KV, v.down.frzD m (aB mem) = (v.frzD m mem).down
 | .agg cs => by simp only [KV.down, AV.frzD, KV.frzD, zQ m mem cs]
 | .tup cs => by simp only [KV.down, AV.frzD, KV.frzD, zQ m mem cs]
 | .msw b g => Ft m mem (.msw b g)
 | .lit v => by simp only [KV.down, AV.frzD, KV.frzD]
 | .tsl β ag T xs => by simp only [KV.down, AV.frzD, KV.frzD]
 | .el β ag T x c => by simp only [KV.down, AV.frzD, KV.frzD]
 | .ptr b g i c => by simp only [KV.down, AV.frzD, KV.frzD]
 | .ms b g o n => by simp only [KV.down, AV.frzD, KV.frzD]
 | .fn f fi ca => by simp only [KV.down, AV.frzD, KV.frzD]
 | .dead => by simp only [KV.down, AV.dead, AV.frzD, KV.frzD]
 | .gone => by simp only [KV.down, AV.goneV, AV.frzD, KV.frzD]
 | .unkB => by simp only [KV.down, AV.unkB, AV.frzD, KV.frzD]
theorem zQ (m : Nat) (mem : aD) : ∀ vs : List KV, AV.frzDs m (aB mem) (KV.downs vs) = KV.downs (KV.frzDs m mem vs)
 | [] => by simp only [KV.downs, AV.frzDs, KV.frzDs]
 | v :: vs => by simp only [KV.downs, AV.frzDs, KV.frzDs, GV m mem v, zQ m mem vs]
end
theorem sP (f : jV) : ∀ mem : aD, j2 f (aB mem) = aB (wJ f mem)
 | [] => rfl
 | none :: m => by
  have := sP f m
  simp only [aB, yx1, yh2, j2, wJ] at this ⊢
  rw [this]
 | some x :: m => by
  have := sP f m
  simp only [aB, yx1, yg, j2, wJ] at this ⊢
  rw [this]
  simp only [dD.down, Dd]
theorem IA (k : Nat) (v : KV) (mem : aD) : kN k (v.down, aB mem) = ((p3 k v mem).1.down, aB (p3 k v mem).2) := by
 unfold kN p3
 simp only [GV, Ep, gM, wN, vD, sP]
 cases fN k (KV.frzD k mem v).refs && fN k (h8 (mem.take k)) <;> rfl
theorem oK (m : Nat) (mem : aH) : ∀ vs : List AV, AV.frzDs m mem vs = vs.map (·.frzD m mem)
 | [] => by simp [AV.frzDs]
 | v :: vs => by simp [AV.frzDs, oK m mem vs]
theorem Lj {G : Gh} {w : World} {mem : aH} {m : Nat} {v : AV} {cv : Value} (hM : aF G w mem) (hv : VR G w v cv) : VR (G.frz (lD G mem m)) w (v.frzD m mem) cv := by
 have hg : c8 G (G.frz (lD G mem m)) := c8.frz G _ (by rintro B o ⟨b, x, L, _, U, I, hB⟩; exact hM.mine U I hB)
 have H := fun {a : AV} {u : Value} (h : VR G w a u) => h.mono hg (Ev.refl G w)
 induction hv with
 | lit v h => simp only [AV.frzD]; exact .lit v h
 | imm β p v h hs => simp only [AV.frzD]; exact H (.imm β p v h hs)
 | unkB b => simp only [AV.frzD]; exact .unkB b
 | dead v V W => simp only [AV.frzD]; exact .dead v V W
 | ptr b g i c L B I J => simp only [AV.frzD]; exact H (.ptr b g i c L B I J)
 | ms b g o n cap L B I J hn M N => simp only [AV.frzD]; exact H (.ms b g o n cap L B I J hn M N)
 | msNil b g L I J => simp only [AV.frzD]; exact H (.msNil b g L I J)
 | msZ b g o B oo L I J ho M => simp only [AV.frzD]; exact H (.msZ b g o B oo L I J ho M)
 | msw b g cap L B I J hn N => simp only [AV.frzD]; exact oS hM (.msw b g cap L B I J hn N)
 | mswNil b g L I J hn => simp only [AV.frzD]; exact oS hM (.mswNil b g L I J hn)
 | el β p c B o cv h hr => simp only [AV.frzD]; exact H (.el β p c B o cv h hr)
 | fn f fi Z fv cv V W N hc ihf ihc => simp only [AV.frzD]; exact H (.fn f fi Z fv cv V W N hc)
 | agg cs cvs K h Y =>
  simp only [AV.frzD]
  refine .agg _ cvs (by rw [oK]; simpa using K) (fun j y O => ?_)
  rw [oK, yb1] at O
  obtain ⟨x, U, rfl⟩ := yc.1 O
  exact Y j x U
 | tup cs cvs K h Y =>
  simp only [AV.frzD]
  refine .tup _ cvs (by rw [oK]; simpa using K) (fun j y O => ?_)
  rw [oK, yb1] at O
  obtain ⟨x, U, rfl⟩ := yc.1 O
  exact Y j x U
theorem jY (f : jV) : ∀ (m : aH) (j : Nat), (j2 f m)[j]? = (m[j]?).map fun o => o.map fun x => { x with row := x.row.ren f }
 | [], j => by simp [j2]
 | some x :: m, 0 => rfl
 | none :: m, 0 => rfl
 | some x :: m, j + 1 => by simp only [j2, yd1]; exact jY f m j
 | none :: m, j + 1 => by simp only [j2, yd1]; exact jY f m j
theorem Oe.settle {G : Gh} {w : World} {m : aH} {q : AV × aH} {N : Gh} {w' : World} {cv : Value} (h : Oe G w m q N w' cv) : ∃ G2, Oe G w m (kN m.length q) G2 w' cv := by
 unfold kN
 cases hc : (fN m.length (q.1.frzD m.length q.2).refs && fN m.length (b9 (q.2.take m.length))) with
 | false => exact ⟨N, h⟩
 | true =>
  simp only [yl]
  obtain ⟨hv, hev, hmine, hprot, hnew, hM, hgens, hkept, hnones⟩ := h
  have hg : c8 N (N.frz (lD N q.2 m.length)) := c8.frz N _ (by rintro B o ⟨b, x, L, _, H, W, hB⟩; exact hM.mine H W hB)
  let G2 : Gh := { loc := fun b g => if b < m.length then N.loc b g else none, prot := fun β B o => N.prot β B o ∨ lD N q.2 m.length B o, mine := N.mine }
  have J : ∀ {b g : Nat}, b < m.length → G2.loc b g = N.loc b g := fun M => if_pos M
  have hro : Cx (N.frz (lD N q.2 m.length)) G2 (f0 m.length) := by
   intro b g p L K hL
   unfold f0 at K
   cases M : Nat.blt b m.length with
   | false => rw [M] at K; cases K
   | true =>
    rw [M] at K
    obtain rfl := ya K
    rw [Nat.blt_eq] at M
    show G2.loc b g = some L
    rw [J M]; exact hL
  have I : ∀ {j : Nat} {y : a9}, (j2 (f0 m.length) (q.2.take m.length))[j]? = some (some y) → j < m.length ∧ ∃ x, q.2[j]? = some (some x) ∧ y = { x with row := x.row.ren (f0 m.length) } := by
   intro j y U
   rw [jY, yj1] at U
   by_cases hj : j < m.length
   ·rw [if_pos hj] at U
    obtain ⟨o, ho, hoy⟩ := yc.1 U
    cases o with
    | none => cases hoy
    | some x => exact ⟨hj, x, ho, (ya hoy).symm⟩
   ·rw [if_neg hj] at U; cases U
  refine ⟨G2, ?_, hev, hmine, fun β B o K => .inl (hprot β B o K), ?_, ?_, ?_, ?_, ?_⟩
  ·exact (Lj hM hv).ren (l := true) hro (fun β B o _ K => K) (fun _ => rfl)
  ·rintro β B o (K | ⟨b, x, L, _, H, W, hB⟩)
   ·exact hnew β B o K
   ·exact .inr (hmine ▸ hM.mine H W hB)
  ·have Y : ∀ {b : Nat} {x : a9} {B : Nat}, b < m.length → eK G2 b { x with row := x.row.ren (f0 m.length) } B → eK N b x B := by
    rintro b x B M ⟨L, W, hB⟩
    exact ⟨L, by rw [← J M]; exact W, hB⟩
   refine ⟨?_, ?_, ?_, ?_, ?_, ?_, hM.own, fun B o K => K.imp (hM.lab B o) id, ?_, hM.glob.mono (fun _ _ h => .inl h) fun _ _ _ => rfl⟩
   ·intro b y U
    obtain ⟨M, x, H, rfl⟩ := I U
    have hbx := hM.box b x H
    obtain ⟨o, W, hmm⟩ := hbx.loc
    refine ⟨by rw [l9]; exact hbx.e, o, by rw [J M, l9, iW]; exact W, ?_⟩
    cases o with
    | none => exact ⟨by rw [iW]; exact hmm.1, by rw [dC]; exact hmm.2⟩
    | some B =>
     obtain ⟨h1, h2, h3, h4, h5⟩ := hmm
     have hBk : eK N b x B := ⟨_, W, rfl⟩
     have hin : ∀ i c B', cP w' B x.row i c B' → N.mine B' ∧ ∀ β o, ¬ (N.prot β B' o ∨ lD N q.2 m.length B' o) := by
      intro i c B' hi
      obtain ⟨m1, m2, m3, m4⟩ := hM.inn H hBk hi
      refine ⟨m1, fun β o K => ?_⟩
      rcases K with K | ⟨b', x', L', _, O, V, hB'⟩
      ·exact m4 β o K
      ·exact hM.inA b b' x x' B i c B' H hBk hi O ⟨L', V, hB'⟩
     have hrow : gI (N.frz (lD N q.2 m.length)) w' B x.row := h4.mono hg (Ev.refl N w') (fun _ _ => rfl) (fun i c B' hi => ⟨⟨fun _ => rfl, id⟩, (hin i c B' hi).2⟩)
     refine ⟨h1, h2, h3, hrow.ren (l := true) hro (fun β B o _ K => K) (fun _ => rfl) hin, fun hf β o K => ?_⟩
     rcases K with K | ⟨b', x', L', Z, O, V, hB'⟩
     ·exact h5 hf β o K
     ·have := hM.apart b b' x x' _ L' B H O W V rfl hB'
      omega
   ·intro b g hn
    by_cases M : b < m.length
    ·rw [J M]
     refine hM.unset b g fun x H => hn { x with row := x.row.ren (f0 m.length) } ?_
     rw [jY, yj1, if_pos M, H]; rfl
    ·exact if_neg M
   ·intro b y g U hlt
    obtain ⟨M, x, H, rfl⟩ := I U
    rw [J M]
    exact hM.gens b x g H hlt
   ·intro b b' y y' L L' B U hy' W V hB hB'
    obtain ⟨M, x, H, rfl⟩ := I U
    obtain ⟨Z, x', O, rfl⟩ := I hy'
    rw [J M] at W
    rw [J Z] at V
    exact hM.apart b b' x x' L L' B H O W V hB hB'
   ·intro b b' y y' B i c B' U k hi hy' k'
    obtain ⟨M, x, H, rfl⟩ := I U
    obtain ⟨Z, x', O, rfl⟩ := I hy'
    exact hM.inA b b' x x' B i c B' H (Y M k) (cP.ren.1 hi) O (Y Z k')
   ·intro b b' y y' B C i c i' c' B' U k hi hy' k' hi'
    obtain ⟨M, x, H, rfl⟩ := I U
    obtain ⟨Z, x', O, rfl⟩ := I hy'
    exact hM.inB b b' x x' B C i c i' c' B' H (Y M k) (cP.ren.1 hi) O (Y Z k') (cP.ren.1 hi')
   ·rintro β B o (K | ⟨b, x, L, _, H, W, hB⟩)
    ·exact hM.away β B o K
    ·obtain ⟨oo, V, hmm⟩ := (hM.box b x H).loc
     rw [W] at V
     obtain rfl := ya V
     simp only at hB; subst hB
     exact hmm.2.1
  ·intro j y hj U
   obtain ⟨_, x, H, rfl⟩ := I U
   exact hgens j x (hj.imp id fun h => by rw [← dC (f := f0 m.length)]; exact h) H
  ·intro j x H
   have hj : j < m.length := by
    rcases yc2 j m.length with h | h
    ·exact h
    ·rw [ya1 h] at H; cases H
   obtain ⟨y, U, hk, W⟩ := hkept j x H
   refine ⟨{ y with row := y.row.ren (f0 m.length) }, ?_, by rw [dC]; exact hk, fun L hL => ?_⟩
   ·show (j2 (f0 m.length) (q.2.take m.length))[j]? = _
    rw [jY, yj1, if_pos hj, U]; rfl
   ·rw [J hj]; exact W L hL
  ·intro j H
   have hj : j < m.length := by
    rcases yc2 j m.length with h | h
    ·exact h
    ·rw [ya1 h] at H; cases H
   show (j2 (f0 m.length) (q.2.take m.length))[j]? = _
   rw [jY, yj1, if_pos hj, hnones j H]; rfl
def LV {R : Type} (I : PP R) (tab : TypeId → Option TI) (tbl : FuncId → List aC) (loops : Nat → Option aL) (an : lC) (fn : Func) (k0 : Nat) (a : jD) (rr : List jD) (d : a.den) (k : eO rr → Option R) : Option R :=
 OZ I tab tbl loops an fn (c9 a.sh (P2.fst a.sh.dflt _ _ d)) (e8 a.msh (P2.snd a.msh.dflt _ _ d)) fun v mem =>
  match sR true rr .ret ⟨dR [0] [(p3 k0 v mem).1], (p3 k0 v mem).2⟩ with
  | some b => k b
  | none => none
theorem n5 : ∀ mem : aD, (e9 mem).length = mem.length
 | [] => rfl
 | none :: m => by simp only [e9, yg2, n5 m]
 | some x :: m => by simp only [e9, yg2, n5 m]
open Classical in
theorem F1 (hn : nT P = true) (hm : P.follows .mixedOrders = true) (ht : bG P tab) {tbl : FuncId → List aC} (hto : ∀ g, (tbl g).all J5 = true) (htb : ∀ g, ∀ E ∈ tbl g, qS P g E)
  {f : FuncId} {fn : Func} (hf : P.funcs[f]? = some fn) {c : Code} (hb : fn.body = some c) {E : aC} (Z : Ol fn c E = true) {an : lC} {loops : Nat → Option aL} {old : List (Option Bool)} {n : Nat}
  (J : ∀ d, e9 (e8 E.a.msh d) = old) (hl : qE tab tbl loops an old n c 0) (W : ∀ a, LV (aP (eO E.r)) tab tbl loops an fn old.length E.a E.r a some = E.sh a) : qS P f E := by
 intro a b hab G w as m vargs hle hM hg0 hv
 refine ⟨q5 hf hn (by rw [hb]; rfl), ?_⟩
 simp only [Ol, yb] at Z
 have M := Z.1.1
 simp only [J5, yb] at M
 obtain ⟨U, hls, rfl⟩ := hle
 have hC := yW htb
 have K := lA.all (w := w) hM.lab M.1.1.1 hls
 have hv' := K.vrs hv
 have hr := (W a).trans hab
 unfold LV OZ at hr
 rw [hb] at hr
 simp only at hr
 rw [J] at hr
 have hkl : (aB (e8 E.a.msh (P2.snd E.a.msh.dflt E.a.sh.un E.a.msh.un a))).length = old.length := by
  rw [← J, n5, d7]
 let k1 : Ex → St → Option Unit := fun e st => if ∃ q, Dp P fn old e st = some q ∧ F3 E b (kN old.length q) then some () else none
 have hlenA : (c9 E.a.sh (P2.fst E.a.sh.dflt E.a.sh.un E.a.msh.un a)).length ≤ fn.ntmps := by
  rw [← aG, ← K.len, U]; exact nl.1 Z.2
 have O := A7 ht (Hw hto) (n := n) (m := fn.ntmps) c Z.1.2 (R1 := Unit) (r1 := ()) (k1 := k1) hl (Bx (n := fn.ntmps) fun v hv => o7 hv)
  (by rw [yi1, yv2, aG]; omega) hr (fun e st' tmps' h1 h2 h3 => ?_)
 ·have I : i5 (aB (e8 E.a.msh (P2.snd E.a.msh.dflt E.a.sh.un E.a.msh.un a))) = old := (j9 _).trans (J _)
  have := Nc hC (AO hm hC an) (n := n) hf hb (args := KV.downs (c9 E.a.sh (P2.fst E.a.sh.dflt E.a.sh.un E.a.msh.un a))) (k1 := k1) (r1 := ()) (good := fun q => F3 E b (kN old.length q)) (fun e st h => by
   rw [I]
   show ∃ q, Dp P fn old e st = some q ∧ F3 E b (kN old.length q)
   by_cases Y : ∃ q, Dp P fn old e st = some q ∧ F3 E b (kN old.length q)
   ·exact Y
   ·have h : (if ∃ q, Dp P fn old e st = some q ∧ F3 E b (kN old.length q) then some () else none) = some () := h
    rw [if_neg Y] at h; cases h) (by rw [I, aG]; exact O) hM hg0 hv'
  refine this.mono fun e w' Y => ?_
  obtain ⟨q, hg, G', cv, he, H⟩ := Y
  obtain ⟨G2, H⟩ := H.settle
  rw [hkl] at H
  generalize kN old.length q = q2 at hg H
  obtain ⟨qv, qm⟩ := q2
  obtain ⟨N, hg2⟩ := hg
  have N : qm = (AW E b).2 := N
  subst N
  exact ⟨G2, cv, he, hg2 G2 w' cv H.memR.lab H.v, H.ev, H.mine, H.prot, H.new, H.memR, H.gens, H.kept, H.nones⟩
 ·obtain ⟨v, mm, h4, h5⟩ := JJ ht h2 h1
  have V : sR true E.r .ret ⟨dR [0] [(p3 old.length v mm).1], (p3 old.length v mm).2⟩ = some b := by
   split at h4
   ·rename_i b' hb'
    rw [hb', ya h4]
   ·cases h4
  obtain ⟨g1, g2⟩ := Fb M.2 V
  refine if_pos ⟨_, h5, ?_⟩
  rw [IA]
  exact ⟨congrArg aB g1.symm, g2⟩
section
variable {tbl : FuncId → List aC} {loops : Nat → Option aL} {an : lC} {old : List (Option Bool)} {n : Nat} {c : Code}
theorem aW.ofS (hn : nT P = true) (hm : P.follows .mixedOrders = true) (ht : bG P tab) (hT : q9 P tbl) {f : FuncId} {fn : Func} (M : P.funcs[f]? = some fn) (N : fn.body = some c) {E : aC}
  (J : Ol fn c E = true) (K : dQ ((fH c 0).map (·.1)) = true) (H : ∀ d, e9 (e8 E.a.msh d) = old) (O : LT tab tbl loops an old n c loops)
  (I : ∀ a, LV (aP (eO E.r)) tab tbl loops an fn old.length E.a E.r a some = E.sh a) : aW P f E :=
 ⟨by simp only [Ol, yb] at J; exact J.1.1, F1 hn hm ht (fun g => yr1.2 fun E hE => (hT g E hE).1) (fun g E hE => (hT g E hE).2) M N J H (O.ok K) I⟩
end
end
end Go.Ab
