import Derived.Test.YtdlbbdbbpoggfaaLib29
set_option linter.unusedVariables false
set_option linter.unusedSectionVars false
set_option linter.unusedSimpArgs false
namespace Go.Ab
variable [GTab]
variable {P : Program} {R : Type} {r : R} {tab : TypeId → Option TI} {mem : KMem}
noncomputable section
mutual
def AV.frzD (m : Nat) (mem : Mem) : AV → AV
 | .agg cs => .agg (AV.frzDs m mem cs)
 | .tup cs => .tup (AV.frzDs m mem cs)
 | .msw b g => AV.frz m mem (.msw b g)
 | v => v
def AV.frzDs (m : Nat) (mem : Mem) : List AV → List AV
 | [] => []
 | v :: r => v.frzD m mem :: AV.frzDs m mem r
end
mutual
def KV.frzD (m : Nat) (mem : KMem) : KV → KV
 | .agg cs => .agg (KV.frzDs m mem cs)
 | .tup cs => .tup (KV.frzDs m mem cs)
 | .msw b g => KV.frz m mem (.msw b g)
 | v => v
def KV.frzDs (m : Nat) (mem : KMem) : List KV → List KV
 | [] => []
 | v :: r => v.frzD m mem :: KV.frzDs m mem r
end
def keepRen (k : Nat) : Ren := fun b g => bif Nat.blt b k then some (b, g) else none
def renMem (f : Ren) : Mem → Mem
 | [] => []
 | some x :: r => some { x with row := x.row.ren f } :: renMem f r
 | none :: r => none :: renMem f r
def renMemK (f : Ren) : KMem → KMem
 | [] => []
 | some x :: r => some ⟨x.gen, x.frz, x.row.ren f⟩ :: renMemK f r
 | none :: r => none :: renMemK f r
def settleA (k : Nat) (q : AV × Mem) : AV × Mem :=
 bif allLt k (q.1.frzD k q.2).refs && allLt k (memRefs (q.2.take k)) then ((q.1.frzD k q.2).ren (keepRen k), renMem (keepRen k) (q.2.take k)) else q
def settleK (k : Nat) (v : KV) (mem : KMem) : KV × KMem :=
 bif allLt k (v.frzD k mem).refs && allLt k (memRefsK (mem.take k)) then ((v.frzD k mem).ren (keepRen k), renMemK (keepRen k) (mem.take k)) else (v, mem)
mutual
theorem zjt (m : Nat) (mem : KMem) : ∀ v : KV, v.down.frzD m (kdown mem) = (v.frzD m mem).down
 | .agg cs => by simp only [KV.down, AV.frzD, KV.frzD, zeM m mem cs]
 | .tup cs => by simp only [KV.down, AV.frzD, KV.frzD, zeM m mem cs]
 | .msw b g => zhS m mem (.msw b g)
 | .lit v => by simp only [KV.down, AV.frzD, KV.frzD]
 | .tsl β ag T xs => by simp only [KV.down, AV.frzD, KV.frzD]
 | .el β ag T x c => by simp only [KV.down, AV.frzD, KV.frzD]
 | .ptr b g i c => by simp only [KV.down, AV.frzD, KV.frzD]
 | .ms b g o n => by simp only [KV.down, AV.frzD, KV.frzD]
 | .fn f fi ca => by simp only [KV.down, AV.frzD, KV.frzD]
 | .dead => by simp only [KV.down, AV.dead, AV.frzD, KV.frzD]
 | .gone => by simp only [KV.down, AV.goneV, AV.frzD, KV.frzD]
 | .unkB => by simp only [KV.down, AV.unkB, AV.frzD, KV.frzD]
theorem zeM (m : Nat) (mem : KMem) : ∀ vs : List KV, AV.frzDs m (kdown mem) (KV.downs vs) = KV.downs (KV.frzDs m mem vs)
 | [] => by simp only [KV.downs, AV.frzDs, KV.frzDs]
 | v :: vs => by simp only [KV.downs, AV.frzDs, KV.frzDs, zjt m mem v, zeM m mem vs]
end
theorem zdz (f : Ren) : ∀ mem : KMem, renMem f (kdown mem) = kdown (renMemK f mem)
 | [] => rfl
 | none :: m => by
  have := zdz f m
  simp only [kdown, yu1, Option.map_none, renMem, renMemK] at this ⊢
  rw [this]
 | some x :: m => by
  have := zdz f m
  simp only [kdown, yu1, yk, renMem, renMemK] at this ⊢
  rw [this]
  simp only [KBox.down, zhu]
theorem zlP (k : Nat) (v : KV) (mem : KMem) : settleA k (v.down, kdown mem) = ((settleK k v mem).1.down, kdown (settleK k v mem).2) := by
 unfold settleA settleK
 simp only [zjt, ziQ, zay, zeh, zdR, zdz]
 cases allLt k (KV.frzD k mem v).refs && allLt k (memRefsK (mem.take k)) <;> rfl
theorem zcu (m : Nat) (mem : Mem) : ∀ vs : List AV, AV.frzDs m mem vs = vs.map (·.frzD m mem)
 | [] => by simp [AV.frzDs]
 | v :: vs => by simp [AV.frzDs, zcu m mem vs]
theorem znj {G : Gh} {w : World} {mem : Mem} {m : Nat} {v : AV} {cv : Value} (hM : MemR G w mem) (hv : VR G w v cv) : VR (G.frz (NewBlk G mem m)) w (v.frzD m mem) cv := by
 have hg : Gle G (G.frz (NewBlk G mem m)) := Gle.frz G _ (by rintro B o ⟨b, x, L, _, hx, hl, hB⟩; exact hM.mine hx hl hB)
 have hmono := fun {a : AV} {u : Value} (h : VR G w a u) => h.mono hg (Ev.refl G w)
 induction hv with
 | lit v h => simp only [AV.frzD]; exact .lit v h
 | imm β p v h hs => simp only [AV.frzD]; exact hmono (.imm β p v h hs)
 | unkB b => simp only [AV.frzD]; exact .unkB b
 | dead v h1 h2 => simp only [AV.frzD]; exact .dead v h1 h2
 | ptr b g i c L B hl hb => simp only [AV.frzD]; exact hmono (.ptr b g i c L B hl hb)
 | ms b g o n cap L B hl hb hn hon hf => simp only [AV.frzD]; exact hmono (.ms b g o n cap L B hl hb hn hon hf)
 | msNil b g L hl hb => simp only [AV.frzD]; exact hmono (.msNil b g L hl hb)
 | msZ b g o B oo L hl hb ho hon => simp only [AV.frzD]; exact hmono (.msZ b g o B oo L hl hb ho hon)
 | msw b g cap L B hl hb hn hf => simp only [AV.frzD]; exact zcC hM (.msw b g cap L B hl hb hn hf)
 | mswNil b g L hl hb hn => simp only [AV.frzD]; exact zcC hM (.mswNil b g L hl hb hn)
 | el β p c B o cv h hr => simp only [AV.frzD]; exact hmono (.el β p c B o cv h hr)
 | fn f fi ca fv cv h1 h2 hf hc ihf ihc => simp only [AV.frzD]; exact hmono (.fn f fi ca fv cv h1 h2 hf hc)
 | agg cs cvs hlen h ih =>
  simp only [AV.frzD]
  refine .agg _ cvs (by rw [zcu]; simpa using hlen) (fun j y hy => ?_)
  rw [zcu, yc1] at hy
  obtain ⟨x, hx, rfl⟩ := yd.1 hy
  exact ih j x hx
 | tup cs cvs hlen h ih =>
  simp only [AV.frzD]
  refine .tup _ cvs (by rw [zcu]; simpa using hlen) (fun j y hy => ?_)
  rw [zcu, yc1] at hy
  obtain ⟨x, hx, rfl⟩ := yd.1 hy
  exact ih j x hx
theorem zaV (f : Ren) : ∀ (m : Mem) (j : Nat), (renMem f m)[j]? = (m[j]?).map fun o => o.map fun x => { x with row := x.row.ren f }
 | [], j => by simp [renMem]
 | some x :: m, 0 => rfl
 | none :: m, 0 => rfl
 | some x :: m, j + 1 => by simp only [renMem, ye1]; exact zaV f m j
 | none :: m, j + 1 => by simp only [renMem, ye1]; exact zaV f m j
theorem Ret.settle {G : Gh} {w : World} {m : Mem} {q : AV × Mem} {G' : Gh} {w' : World} {cv : Value} (h : Ret G w m q G' w' cv) : ∃ G2, Ret G w m (settleA m.length q) G2 w' cv := by
 unfold settleA
 cases hc : (allLt m.length (q.1.frzD m.length q.2).refs && allLt m.length (memRefs (q.2.take m.length))) with
 | false => exact ⟨G', h⟩
 | true =>
  simp only [yg]
  obtain ⟨hv, hev, hmine, hprot, hnew, hM, hgens, hkept, hnones⟩ := h
  have hg : Gle G' (G'.frz (NewBlk G' q.2 m.length)) := Gle.frz G' _ (by rintro B o ⟨b, x, L, _, hx, hl, hB⟩; exact hM.mine hx hl hB)
  let G2 : Gh := { loc := fun b g => if b < m.length then G'.loc b g else none, prot := fun β B o => G'.prot β B o ∨ NewBlk G' q.2 m.length B o, mine := G'.mine }
  have hloc : ∀ {b g : Nat}, b < m.length → G2.loc b g = G'.loc b g := fun hb => if_pos hb
  have hro : RenOk (G'.frz (NewBlk G' q.2 m.length)) G2 (keepRen m.length) := by
   intro b g p L hp hL
   unfold keepRen at hp
   cases hb : Nat.blt b m.length with
   | false => rw [hb] at hp; cases hp
   | true =>
    rw [hb] at hp
    obtain rfl := ya hp
    rw [Nat.blt_eq] at hb
    show G2.loc b g = some L
    rw [hloc hb]; exact hL
  have hget : ∀ {j : Nat} {y : Box}, (renMem (keepRen m.length) (q.2.take m.length))[j]? = some (some y) → j < m.length ∧ ∃ x, q.2[j]? = some (some x) ∧ y = { x with row := x.row.ren (keepRen m.length) } := by
   intro j y hy
   rw [zaV, yj1] at hy
   by_cases hj : j < m.length
   ·rw [if_pos hj] at hy
    obtain ⟨o, ho, hoy⟩ := yd.1 hy
    cases o with
    | none => cases hoy
    | some x => exact ⟨hj, x, ho, (ya hoy).symm⟩
   ·rw [if_neg hj] at hy; cases hy
  refine ⟨G2, ?_, hev, hmine, fun β B o hp => .inl (hprot β B o hp), ?_, ?_, ?_, ?_, ?_⟩
  ·exact (znj hM hv).ren (l := true) hro (fun β B o _ hp => hp) (fun _ => rfl)
  ·rintro β B o (hp | ⟨b, x, L, _, hx, hl, hB⟩)
   ·exact hnew β B o hp
   ·exact .inr (hmine ▸ hM.mine hx hl hB)
  ·have hblk : ∀ {b : Nat} {x : Box} {B : Nat}, b < m.length → Blk G2 b { x with row := x.row.ren (keepRen m.length) } B → Blk G' b x B := by
    rintro b x B hb ⟨L, hl, hB⟩
    exact ⟨L, by rw [← hloc hb]; exact hl, hB⟩
   refine ⟨?_, ?_, ?_, ?_, ?_, ?_, hM.own, fun B o hp => hp.imp (hM.lab B o) id, ?_, hM.glob.mono (fun _ _ h => .inl h) fun _ _ _ => rfl⟩
   ·intro b y hy
    obtain ⟨hb, x, hx, rfl⟩ := hget hy
    have hbx := hM.box b x hx
    obtain ⟨o, hl, hmm⟩ := hbx.loc
    refine ⟨by rw [zbA]; exact hbx.e, o, by rw [hloc hb, zbA, zaM]; exact hl, ?_⟩
    cases o with
    | none => exact ⟨by rw [zaM]; exact hmm.1, by rw [zD]; exact hmm.2⟩
    | some B =>
     obtain ⟨h1, h2, h3, h4, h5⟩ := hmm
     have hBk : Blk G' b x B := ⟨_, hl, rfl⟩
     have hin : ∀ i c B', InnB w' B x.row i c B' → G'.mine B' ∧ ∀ β o, ¬ (G'.prot β B' o ∨ NewBlk G' q.2 m.length B' o) := by
      intro i c B' hi
      obtain ⟨m1, m2, m3, m4⟩ := hM.inn hx hBk hi
      refine ⟨m1, fun β o hp => ?_⟩
      rcases hp with hp | ⟨b', x', L', _, hx', hl', hB'⟩
      ·exact m4 β o hp
      ·exact hM.inA b b' x x' B i c B' hx hBk hi hx' ⟨L', hl', hB'⟩
     have hrow : RowR (G'.frz (NewBlk G' q.2 m.length)) w' B x.row := h4.mono hg (Ev.refl G' w') (fun _ _ => rfl) (fun i c B' hi => ⟨⟨fun _ => rfl, id⟩, (hin i c B' hi).2⟩)
     refine ⟨h1, h2, h3, hrow.ren (l := true) hro (fun β B o _ hp => hp) (fun _ => rfl) hin, fun hf β o hp => ?_⟩
     rcases hp with hp | ⟨b', x', L', hb', hx', hl', hB'⟩
     ·exact h5 hf β o hp
     ·have := hM.apart b b' x x' _ L' B hx hx' hl hl' rfl hB'
      omega
   ·intro b g hn
    by_cases hb : b < m.length
    ·rw [hloc hb]
     refine hM.unset b g fun x hx => hn { x with row := x.row.ren (keepRen m.length) } ?_
     rw [zaV, yj1, if_pos hb, hx]; rfl
    ·exact if_neg hb
   ·intro b y g hy hlt
    obtain ⟨hb, x, hx, rfl⟩ := hget hy
    rw [hloc hb]
    exact hM.gens b x g hx hlt
   ·intro b b' y y' L L' B hy hy' hl hl' hB hB'
    obtain ⟨hb, x, hx, rfl⟩ := hget hy
    obtain ⟨hb', x', hx', rfl⟩ := hget hy'
    rw [hloc hb] at hl
    rw [hloc hb'] at hl'
    exact hM.apart b b' x x' L L' B hx hx' hl hl' hB hB'
   ·intro b b' y y' B i c B' hy k hi hy' k'
    obtain ⟨hb, x, hx, rfl⟩ := hget hy
    obtain ⟨hb', x', hx', rfl⟩ := hget hy'
    exact hM.inA b b' x x' B i c B' hx (hblk hb k) (InnB.ren.1 hi) hx' (hblk hb' k')
   ·intro b b' y y' B C i c i' c' B' hy k hi hy' k' hi'
    obtain ⟨hb, x, hx, rfl⟩ := hget hy
    obtain ⟨hb', x', hx', rfl⟩ := hget hy'
    exact hM.inB b b' x x' B C i c i' c' B' hx (hblk hb k) (InnB.ren.1 hi) hx' (hblk hb' k') (InnB.ren.1 hi')
   ·rintro β B o (hp | ⟨b, x, L, _, hx, hl, hB⟩)
    ·exact hM.away β B o hp
    ·obtain ⟨oo, hl', hmm⟩ := (hM.box b x hx).loc
     rw [hl] at hl'
     obtain rfl := ya hl'
     simp only at hB; subst hB
     exact hmm.2.1
  ·intro j y hj hy
   obtain ⟨_, x, hx, rfl⟩ := hget hy
   exact hgens j x (hj.imp id fun h => by rw [← zD (f := keepRen m.length)]; exact h) hx
  ·intro j x hx
   have hj : j < m.length := by
    rcases yc2 j m.length with h | h
    ·exact h
    ·rw [ya1 h] at hx; cases hx
   obtain ⟨y, hy, hk, hl⟩ := hkept j x hx
   refine ⟨{ y with row := y.row.ren (keepRen m.length) }, ?_, by rw [zD]; exact hk, fun L hL => ?_⟩
   ·show (renMem (keepRen m.length) (q.2.take m.length))[j]? = _
    rw [zaV, yj1, if_pos hj, hy]; rfl
   ·rw [hloc hj]; exact hl L hL
  ·intro j hx
   have hj : j < m.length := by
    rcases yc2 j m.length with h | h
    ·exact h
    ·rw [ya1 h] at hx; cases hx
   show (renMem (keepRen m.length) (q.2.take m.length))[j]? = _
   rw [zaV, yj1, if_pos hj, hnones j hx]; rfl
def funDS {R : Type} (I : Sym R) (tab : TypeId → Option TI) (tbl : FuncId → List Entry) (loops : Nat → Option LEntry) (an : Ann) (fn : Func) (k0 : Nat) (a : StSh) (rr : List StSh) (d : a.den) (k : VDen rr → Option R) : Option R :=
 funK I tab tbl loops an fn (encS a.sh (P2.fst a.sh.dflt _ _ d)) (encM a.msh (P2.snd a.msh.dflt _ _ d)) fun v mem =>
  match decV true rr .ret ⟨envOf [0] [(settleK k0 v mem).1], (settleK k0 v mem).2⟩ with
  | some b => k b
  | none => none
theorem zcf : ∀ mem : KMem, (kindsK mem).length = mem.length
 | [] => rfl
 | none :: m => by simp only [kindsK, yh2, zcf m]
 | some x :: m => by simp only [kindsK, yh2, zcf m]
open Classical in
theorem zji (hn : namesOK P = true) (hm : P.follows .mixedOrders = true) (ht : TabOK P tab) {tbl : FuncId → List Entry} (hto : ∀ g, (tbl g).all okE = true) (htb : ∀ g, ∀ E ∈ tbl g, EntryOK P g E)
  {f : FuncId} {fn : Func} (hf : P.funcs[f]? = some fn) {c : Code} (hb : fn.body = some c) {E : Entry} (ho : okF fn c E = true) {an : Ann} {loops : Nat → Option LEntry} {old : List (Option Bool)} {n : Nat}
  (hold : ∀ d, kindsK (encM E.a.msh d) = old) (hl : LoopsOK tab tbl loops an old n c 0) (hrun : ∀ a, funDS (real (VDen E.r)) tab tbl loops an fn old.length E.a E.r a some = E.sh a) : EntryOK P f E := by
 intro a b hab G w as m vargs hle hM hg0 hv
 refine ⟨zfH hf hn (by rw [hb]; rfl), ?_⟩
 simp only [okF, yb] at ho
 have hoE := ho.1.1
 simp only [okE, yb] at hoE
 obtain ⟨hlen, hls, rfl⟩ := hle
 have hC := ziM htb
 have hAll := LeS.all (w := w) hM.lab hoE.1.1.1 hls
 have hv' := hAll.vrs hv
 have hr := (hrun a).trans hab
 unfold funDS funK at hr
 rw [hb] at hr
 simp only at hr
 rw [hold] at hr
 have hkl : (kdown (encM E.a.msh (P2.snd E.a.msh.dflt E.a.sh.un E.a.msh.un a))).length = old.length := by
  rw [← hold, zcf, zQ]
 let k1 : Ex → St → Option Unit := fun e st => if ∃ q, endA P fn old e st = some q ∧ Good E b (settleA old.length q) then some () else none
 have hlenA : (encS E.a.sh (P2.fst E.a.sh.dflt E.a.sh.un E.a.msh.un a)).length ≤ fn.ntmps := by
  rw [← zb, ← hAll.len, hlen]; exact nl.1 ho.2
 have hcode := zjl ht (znO hto) (n := n) (m := fn.ntmps) c ho.1.2 (R1 := Unit) (r1 := ()) (k1 := k1) hl (zjv (n := fn.ntmps) fun v hv => zel hv)
  (by rw [yi1, List.length_replicate, zb]; omega) hr (fun e st' tmps' h1 h2 h3 => ?_)
 ·have hkinds : kinds (kdown (encM E.a.msh (P2.snd E.a.msh.dflt E.a.sh.un E.a.msh.un a))) = old := (zcJ _).trans (hold _)
  have := zpy hC (drawsOK hm hC an) (n := n) hf hb (args := KV.downs (encS E.a.sh (P2.fst E.a.sh.dflt E.a.sh.un E.a.msh.un a))) (k1 := k1) (r1 := ()) (good := fun q => Good E b (settleA old.length q)) (fun e st h => by
   rw [hkinds]
   show ∃ q, endA P fn old e st = some q ∧ Good E b (settleA old.length q)
   by_cases hq : ∃ q, endA P fn old e st = some q ∧ Good E b (settleA old.length q)
   ·exact hq
   ·have h : (if ∃ q, endA P fn old e st = some q ∧ Good E b (settleA old.length q) then some () else none) = some () := h
    rw [if_neg hq] at h; cases h) (by rw [hkinds, zb]; exact hcode) hM hg0 hv'
  refine this.mono fun e w' hq => ?_
  obtain ⟨q, hg, G', cv, he, hret⟩ := hq
  obtain ⟨G2, hret⟩ := hret.settle
  rw [hkl] at hret
  generalize settleA old.length q = q2 at hg hret
  obtain ⟨qv, qm⟩ := q2
  obtain ⟨hg1, hg2⟩ := hg
  have hg1 : qm = (resOf E b).2 := hg1
  subst hg1
  exact ⟨G2, cv, he, hg2 G2 w' cv hret.memR.lab hret.v, hret.ev, hret.mine, hret.prot, hret.new, hret.memR, hret.gens, hret.kept, hret.nones⟩
 ·obtain ⟨v, mm, h4, h5⟩ := zmy ht h2 h1
  have hdec : decV true E.r .ret ⟨envOf [0] [(settleK old.length v mm).1], (settleK old.length v mm).2⟩ = some b := by
   split at h4
   ·rename_i b' hb'
    rw [hb', ya h4]
   ·cases h4
  obtain ⟨g1, g2⟩ := zia hoE.2 hdec
  refine if_pos ⟨_, h5, ?_⟩
  rw [zlP]
  exact ⟨congrArg kdown g1.symm, g2⟩
section
variable {tbl : FuncId → List Entry} {loops : Nat → Option LEntry} {an : Ann} {old : List (Option Bool)} {n : Nat} {c : Code}
theorem EOK.ofS (hn : namesOK P = true) (hm : P.follows .mixedOrders = true) (ht : TabOK P tab) (hT : TblOK P tbl) {f : FuncId} {fn : Func} (hf : P.funcs[f]? = some fn) (hb : fn.body = some c) {E : Entry}
  (ho : okF fn c E = true) (hnd : nodupN ((loopsIn c 0).map (·.1)) = true) (hold : ∀ d, kindsK (encM E.a.msh d) = old) (hl : LT tab tbl loops an old n c loops)
  (hrun : ∀ a, funDS (real (VDen E.r)) tab tbl loops an fn old.length E.a E.r a some = E.sh a) : EOK P f E :=
 ⟨by simp only [okF, yb] at ho; exact ho.1.1, zji hn hm ht (fun g => yo2.2 fun E hE => (hT g E hE).1) (fun g E hE => (hT g E hE).2) hf hb ho hold (hl.ok hnd) hrun⟩
end
end
end Go.Ab
