/- A body whose beginning is told by the evaluator, and whose rest is walked by hand. -/
import Derived.Test.YtmoldheenagboaaLib32
set_option linter.unusedVariables false
set_option linter.unusedSectionVars false
set_option linter.unusedSimpArgs false
namespace Go.Ab
variable [GTab]
variable {P : Program} {tab : TypeId → Option TI}
def AtQ (G0 : Gh) (w0 : World) (old : List (Option Bool)) (Q : StSh) (d : Q.den) (m : Nat) (a : Act) (w : World) : Prop :=
 ∃ G, MemR G w (kdown (encSt Q d).mem) ∧ (∀ t, (encSt Q d).env t = .gone ∨ VR G w ((encSt Q d).env t).down (a.tmps.getD t undef)) ∧ a.tmps.size = m ∧ a.defers = [] ∧ Inv G0 w0 old G w
open Classical in
theorem zoZ (hm : P.follows .mixedOrders = true) (ht : TabOK P tab) {tbl : FuncId → List Entry} (hT : TblOK P tbl) {ntmps : Nat} {p0 p1 p2 c : Code} (hc : c = .seq p0 (.seq p1 p2)) (hd : dstsOk ntmps c = true) {E : Entry} (hoE : okE E = true) (hble : Nat.ble E.a.slots.length ntmps = true)
  {an : Ann} {loops : Nat → Option LEntry} {old : List (Option Bool)} {n : Nat} (hold : ∀ d, kindsK (encM E.a.msh d) = old) (hl : LoopsOK tab tbl loops an old n c 0) {Q : StSh} {d : Q.den} (hq : Q.ex = .normal) {a : E.a.den}
  (hrun : codeK (real (VDen [Q])) tab tbl loops an old c 0 ⟨envArgs (encS E.a.sh (P2.fst E.a.sh.dflt E.a.sh.un E.a.msh.un a)) ntmps, encM E.a.msh (P2.snd E.a.msh.dflt E.a.sh.un E.a.msh.un a)⟩ (fun e st => decV false [Q] e st) = some d)
  {G : Gh} {w : World} {as : List AV} {m : Mem} {vargs : Array Value} (hle : LeE E as m a) (hM : MemR G w m) (hv : VRs G w as vargs) {X : Exit → Act → World → Prop}
  {Y0 Y1 : Exit → Act → World → Prop} (hX : ∀ act w', AtQ G w old Q d ntmps act w' → X .normal act w') : p0.wp P (Exit.then (p1.wp P (Exit.then (p2.wp P X) Y1)) Y0) { tmps := vargs ++ Array.replicate (ntmps - vargs.size) undef, defers := [] } w := by
 have hto : ∀ g, (tbl g).all okE = true := fun g => List.all_eq_true.2 fun E hE => (hT g E hE).1
 have htb : ∀ g, ∀ E ∈ tbl g, EntryOK P g E := fun g E hE => (hT g E hE).2
 have hoE' := hoE
 simp only [okE, Bool.and_eq_true] at hoE'
 obtain ⟨hlen, hls, rfl⟩ := hle
 have hC := zdF htb
 have hAll := LeS.all (w := w) hM.lab hoE'.1.1.1 hls
 have hv' := hAll.vrs hv
 let k1 : Ex → St → Option Unit := fun e st => if e = .normal ∧ st.mem = kdown (encSt Q d).mem ∧ st.tmps.length = ntmps ∧ ∀ t, (encSt Q d).env t = .gone ∨ (getR st.tmps t = some ((encSt Q d).env t).down ∧ isGone ((encSt Q d).env t).down = false) then some () else none
 have hlenA : (encS E.a.sh (P2.fst E.a.sh.dflt E.a.sh.un E.a.msh.un a)).length ≤ ntmps := by
  rw [← zd, ← hAll.len, hlen]; exact nl.1 hble
 have hcode := zeU ht (zjo hto) (n := n) (m := ntmps) c hd (R1 := Unit) (r1 := ()) (k1 := k1) hl (zfg (n := ntmps) fun v hv => zbU hv)
  (by rw [List.length_append, List.length_replicate, zd]; omega) hrun (fun e st' tmps' h1 h2 h3 => ?_)
 ·have hkinds : kinds (kdown (encM E.a.msh (P2.snd E.a.msh.dflt E.a.sh.un E.a.msh.un a))) = old := (zaN _).trans (hold _)
  have hno : ∀ {e st}, e ≠ .normal → k1 e st ≠ some () := fun {e st} hne h => by
   have h : (if e = .normal ∧ st.mem = kdown (encSt Q d).mem ∧ st.tmps.length = ntmps ∧ ∀ t, (encSt Q d).env t = .gone ∨ (getR st.tmps t = some ((encSt Q d).env t).down ∧ isGone ((encSt Q d).env t).down = false) then some () else none) = some () := h
   rw [if_neg (fun hh => hne hh.1)] at h; cases h
  subst hc
  simp only [codeA] at hcode
  refine zbD hC (drawsOK hm hC an) p0 hcode (G := G) ⟨hM, ?_, fun j x hx => ?_, rfl⟩ (Inv.refl G w _) fun e st' G' w' a' he hS hI => ?_
  ·have hl2 : (encS E.a.sh (P2.fst E.a.sh.dflt E.a.sh.un E.a.msh.un a)).length = vargs.size := by rw [← zd]; exact hv'.1
   simp only [List.length_append, List.length_replicate, Array.size_append, Array.size_replicate, hv'.1, hl2]
  ·right
   have hv := hv'
   generalize KV.downs (encS E.a.sh (P2.fst E.a.sh.dflt E.a.sh.un E.a.msh.un a)) = args at hx hv
   have hl2 : (encS E.a.sh (P2.fst E.a.sh.dflt E.a.sh.un E.a.msh.un a)).length = vargs.size := by rw [← zd]; exact hv'.1
   rw [hl2] at hx
   by_cases hj : j < args.length
   ·rw [List.getElem?_append_left hj] at hx
    have := hv.2 j x hx
    rw [Array.getD_eq_getD_getElem?, Array.getElem?_append_left (by rw [← hv.1]; exact hj), ← Array.getD_eq_getD_getElem?]; exact this
   ·rw [List.getElem?_append_right (by omega), List.getElem?_replicate] at hx
    split at hx
    ·rename_i hlt
     obtain rfl := Option.some.inj hx
     rw [Array.getD_eq_getD_getElem?, Array.getElem?_append_right (by rw [← hv.1]; omega), Array.getElem?_replicate, if_pos (by have := hv.1; omega)]
     exact .lit _ rfl
    ·simp at hx
  ·cases e with
   | exit id => exact absurd he (hno (by intro h; cases h))
   | ret => exact absurd he (hno (by intro h; cases h))
   | normal =>
   refine zbD hC (drawsOK hm hC an) p1 he hS hI fun e st' G' w' a' he hS hI => ?_
   cases e with
   | exit id => exact absurd he (hno (by intro h; cases h))
   | ret => exact absurd he (hno (by intro h; cases h))
   | normal =>
   refine zbD hC (drawsOK hm hC an) p2 he hS hI fun e st' G' w' a' he hS hI => ?_
   by_cases hg : e = .normal ∧ st'.mem = kdown (encSt Q d).mem ∧ st'.tmps.length = ntmps ∧ ∀ t, (encSt Q d).env t = .gone ∨ (getR st'.tmps t = some ((encSt Q d).env t).down ∧ isGone ((encSt Q d).env t).down = false)
   ·obtain ⟨rfl, hmem, htl, hten⟩ := hg
    refine hX a' w' ⟨G', hmem ▸ hS.memr, fun t => ?_, ?_, hS.defers, hI⟩
    ·rcases hten t with h | ⟨h, hng⟩
     ·exact .inl h
     ·right
      rw [zq] at h
      rcases hS.tmps t _ h with h2 | h2
      ·rw [hng] at h2; cases h2
      ·exact h2
    ·have := hS.len
     rw [← this, htl]
   ·have he : (if e = .normal ∧ st'.mem = kdown (encSt Q d).mem ∧ st'.tmps.length = ntmps ∧ ∀ t, (encSt Q d).env t = .gone ∨ (getR st'.tmps t = some ((encSt Q d).env t).down ∧ isGone ((encSt Q d).env t).down = false) then some () else none) = some () := he
    rw [if_neg hg] at he; cases he
 ·have h1' : decV false [Q] e st' = some d := h1
  obtain ⟨g1, g2, g3⟩ := zdp (l := [Q]) h1'
  refine if_pos ⟨?_, congrArg kdown g2.symm, h3, fun t => ?_⟩
  ·have : e = ExK.normal := g1.symm.trans hq
   rw [this]; rfl
  ·rcases g3 t with h | h
   ·exact .inl h
   ·rcases h2 t with h4 | ⟨h4, h5⟩
    ·exact .inl (h.trans h4)
    ·have e2 : (encSt Q d).env t = st'.env t := h
     exact .inr (by rw [e2]; exact ⟨h4, h5⟩)
structure Turned (B : Nat) (v : Value) (w W : World) : Prop where
 size : w.heap.size ≤ W.heap.size
 out : W.output = w.output
 os : W.os = w.os
 tape : W.tape = w.tape
 but : ∀ B', B' < w.heap.size → B' ≠ B → W.heap[B']? = w.heap[B']?
 obj : ∀ c el m, w.heap[B]? = some (.cells c el m) → ∃ c', W.heap[B]? = some (.cells c' el m) ∧ c'.size = c.size
 cell : cl W B 0 = some v
theorem Turned.start {B : Nat} {v : Value} {w : World} (h : cl w B 0 = some v) : Turned B v w w := ⟨Nat.le_refl _, rfl, rfl, rfl, fun _ _ _ => rfl, fun c el m h => ⟨c, h, rfl⟩, h⟩
theorem Turned.grown {B : Nat} {v : Value} {w W W' : World} {row : Option Nat} (h : Turned B v w W) (hg : W.grownBy W' row) (hr : ∀ r, row = some r → w.heap.size ≤ r) (hB : B < w.heap.size) : Turned B v w W' := by
 have hb : ∀ B', B' < w.heap.size → W'.heap[B']? = W.heap[B']? := fun B' hb => hg.block B' (Nat.lt_of_lt_of_le hb h.size) (fun e => by have := hr B' e.symm; omega)
 exact ⟨Nat.le_trans h.size hg.size, hg.output.trans h.out, hg.os.trans h.os, hg.tape.trans h.tape, fun B' h1 h2 => (hb B' h1).trans (h.but B' h1 h2), fun c el m h1 => by rw [hb B hB]; exact h.obj c el m h1, (zT (hb B hB) 0).trans h.cell⟩
theorem Turned.set {B : Nat} {v v' : Value} {w W : World} (h : Turned B v w W) : Turned B v' w (W.setCell ⟨B, 0, none⟩ v') where
 size := by rw [World.size_setCell]; exact h.size
 out := h.out
 os := h.os
 tape := h.tape
 but B' h1 h2 := by
  rw [← h.but B' h1 h2]
  unfold World.setCell
  simp only [Array.getElem?_modify]
  rw [if_neg (fun e => h2 e.symm)]
 obj c el m h1 := by
  obtain ⟨c', h2, h3⟩ := h.obj c el m h1
  refine ⟨c'.setIfInBounds 0 v', ?_, by simp [h3]⟩
  unfold World.setCell
  simp only [Array.getElem?_modify, h2]
  simp
 cell := World.cell?_setCell_same' _ _ _ (by show (cl W B 0).isSome = true; rw [h.cell]; rfl)
theorem Turned.memR {G : Gh} {w W : World} {mem : Mem} {b : Nat} {x : Box} {L : Loc} {B : Nat} {k : IntKind} {v v' : Int} (hT : Turned B (.int k v') w W) (hM : MemR G w mem) (hx : mem[b]? = some (some x)) (hf : x.frz = false) (hL : G.loc b x.gen = some L) (hB : L.blk = some B)
  (hrow : x.row = .cells 1 [.lit (.int k v)]) : Ev G w W ∧ Gle G (G.put b x.gen L) ∧ MemR (G.put b x.gen L) W (mem.set b (some { x with row := .cells 1 [.lit (.int k v')] })) := by
 have hbox := hM.box b x hx
 obtain ⟨o, hl, hm⟩ := hbox.loc
 obtain rfl := Option.some.inj (hL.symm.trans hl)
 obtain rfl : o = some B := hB
 obtain ⟨h1, h2, h3, h4, h5⟩ := hm
 have hnp := h5 hf
 have hev : Ev G w W := by
  refine ⟨hT.size, hT.out, hT.os, fun B' hb hn => hT.but B' hb (fun e => hn (e ▸ h1)), fun B' o hs => ?_, fun β B' o hp => ?_, fun B' o hs => ?_, hT.tape⟩
  ·by_cases e : B' = B
   ·subst e
    obtain ⟨c, el, lo, hi, hc, _⟩ := h3
    obtain ⟨c', hc', hsz⟩ := hT.obj c el (lo, hi) hc
    unfold cl World.cell? at hs ⊢
    simp only [hc, hc', Option.isSome_none, Bool.false_eq_true, if_false] at hs ⊢
    rcases Nat.lt_or_ge o c.size with h | h
    ·rw [Array.getElem?_eq_getElem (by rw [hsz]; exact h)]; rfl
    ·rw [Array.getElem?_eq_none h] at hs; cases hs
   ·rw [zT (hT.but B' (zgQ hs) e)]; exact hs
  ·have e : B' ≠ B := fun e => hnp β o (e ▸ hp)
   exact zT (hT.but B' (hM.away β B' o hp) e) o
  ·by_cases e : B' = B
   ·subst e
    obtain ⟨c, el, lo, hi, hc, _⟩ := h3
    obtain ⟨c', hc', hsz⟩ := hT.obj c el (lo, hi) hc
    unfold World.frozen?
    simp only [hc, hc']
   ·exact zcR (hT.but B' (zgQ hs) e) o
 have hput : G.loc b x.gen = none ∨ G.loc b x.gen = some (⟨some B, x.row.e, x.row.len⟩ : Loc) := .inr hl
 refine ⟨hev, Gle.put hput, hM.upd (x' := { x with row := .cells 1 [.lit (.int k v')] }) hev (List.getElem?_eq_some_iff.1 hx).1 hput (fun b' y Lb B' hne hy hlb hb => ?_) (fun B' hb' b' y Lb hne hy hlb e => ?_) (fun g hg => hM.gens b x g hx hg) ?_⟩
 ·exact hT.but B' (hM.blk_lt hy hlb hb) (fun e => hne (hM.apart b' b y x Lb _ B hy hx hlb hl (by rw [hb, e]) rfl))
 ·exact hne (hM.apart b' b y x Lb _ B' hy hx hlb hl e hb')
 ·refine ⟨Nat.le_refl _, some B, ?_, h1, Nat.lt_of_lt_of_le h2 hT.size, ?_, ?_, fun hf' => h5 hf⟩
  ·rw [Gh.put_self, hrow]; rfl
  ·obtain ⟨c, el, lo, hi, hc, hd⟩ := h3
   obtain ⟨c', hc', hsz⟩ := hT.obj c el (lo, hi) hc
   exact ⟨c', el, lo, hi, hc', by rw [hsz]; exact hd⟩
  ·refine ⟨rfl, fun j y hj => ?_⟩
   match j, hj with
   | 0, hj =>
    obtain rfl := Option.some.inj hj
    exact ⟨_, hT.cell, rfl, .lit _ rfl⟩
   | j + 1, hj => cases hj
theorem Ret.of_lit {G0 G : Gh} {w0 w : World} {mem mem3 mr : Mem} {v : Value} (hv : notAgg v = true) (hI : Inv G0 w0 (kinds mem) G w) (hM : MemR G w mem3) (hc : canon (kinds mem) [.lit v] mem3 = some ([.lit v], mr)) : ∃ G', Ret G0 w0 mem (.lit v, mr) G' w v := by
 obtain ⟨f', G2, hr, hm, hp, hM2, hren, hk, hgens, hkinds, hnones⟩ := zcQ hM hc
 refine ⟨G2, .lit v hv, hI.ev, hm.trans hI.mine, fun β B o h => by rw [hp]; exact hI.prot β B o h, fun β B o h => hI.new β B o (by rw [hp] at h; exact h), hM2, hgens, fun j x hx => ?_, fun j hj => ?_⟩
 ·have hold : (kinds mem)[j]? = some (some x.row.isCells) := by simp [kinds, hx]
  obtain ⟨y, hy, hyk⟩ := hkinds j _ hold
  refine ⟨y, hy, hyk, fun hc L hL => ?_⟩
  rw [hc] at hold
  exact hk j hold L (hI.keep j hold L hL)
 ·exact hnones j (by simp [kinds, hj])
theorem zml {G : Gh} {w : World} {β : Bool} {k : IntKind} {t : List Int} {cv : Value} (h : VR G w (.imm β (.ints k t)) cv) :
  (∃ a, cv = .slice a 0 0 ∧ t = []) ∨ ∃ b off cap, cv = .slice (some ⟨b, off, none⟩) t.length cap ∧ ∀ (j : Nat) (x : Int), t[j]? = some x → cl w b (off + j) = some (.int k x) ∧ G.prot β b (off + j) := by
 cases h with
 | imm _ _ _ h hs =>
  cases h with
  | intsNil _ a => exact .inl ⟨a, rfl, rfl⟩
  | ints _ _ B o cap hcap h => exact .inr ⟨B, o, cap, rfl, h⟩
theorem ziK {G : Gh} {w : World} {b : Nat} {cv : Value} (h : VR G w (.ptr b 0 0 0) cv) : ∃ L B, G.loc b 0 = some L ∧ L.blk = some B ∧ cv = .pointer (some ⟨B, 0, none⟩) := by
 cases h with
 | ptr _ _ _ _ L B hl hb => exact ⟨L, B, hl, hb, by simp⟩
theorem zmi {G : Gh} {w : World} {f : Fn} {b : Nat} {cv : Value} (h : VR G w (.fn f [] [.ptr b 0 0 0]) cv) : ∃ L B, G.loc b 0 = some L ∧ L.blk = some B ∧ cv = .func f #[] #[.pointer (some ⟨B, 0, none⟩)] := by
 cases h with
 | fn _ _ _ fv cv h1 h2 hf hc =>
  obtain rfl := Array.eq_empty_of_size_eq_zero h1.symm
  obtain ⟨l⟩ := cv
  match l, h2 with
  | [u], h2 =>
   obtain ⟨L, B, h3, h4, h5⟩ := ziK (hc 0 _ rfl)
   have h5 : u = .pointer (some ⟨B, 0, none⟩) := h5
   exact ⟨L, B, h3, h4, by rw [h5]⟩
theorem zkG {G : Gh} {w : World} {mem : Mem} (hM : MemR G w mem) {b : Nat} {x : Box} {L : Loc} {B : Nat} {v : AV} (hx : mem[b]? = some (some x)) (hL : G.loc b x.gen = some L) (hB : L.blk = some B) (hrow : x.row = .cells 1 [v]) :
  B < w.heap.size ∧ Free w B ∧ (x.frz = false → ∀ β o, ¬ G.prot β B o) ∧ ∃ cv, cl w B 0 = some cv ∧ VR G w v cv := by
 obtain ⟨o, hl, hm⟩ := (hM.box b x hx).loc
 obtain rfl := Option.some.inj (hL.symm.trans hl)
 obtain rfl : o = some B := hB
 obtain ⟨h1, h2, h3, h4, h5⟩ := hm
 rw [hrow] at h4
 obtain ⟨cv, hc, _, hv⟩ := h4.2 0 v rfl
 exact ⟨h2, h3, h5, cv, hc, hv⟩
theorem toList22 : ∀ l : List Value, l.length = 22 → ∃ t0 t1 t2 t3 t4 t5 t6 t7 t8 t9 t10 t11 t12 t13 t14 t15 t16 t17 t18 t19 t20 t21, l = [t0, t1, t2, t3, t4, t5, t6, t7, t8, t9, t10, t11, t12, t13, t14, t15, t16, t17, t18, t19, t20, t21] := by
 intro l h
 have hh : ∀ i (hi : i < 22), ∃ x, l[i]? = some x := fun i hi => ⟨l[i]'(by omega), List.getElem?_eq_getElem _⟩
 iterate 22 (rcases l with _ | ⟨_, l⟩; · simp at h)
 rcases l with _ | ⟨_, l⟩
 ·exact ⟨_, _, _, _, _, _, _, _, _, _, _, _, _, _, _, _, _, _, _, _, _, _, rfl⟩
 ·simp at h
end Go.Ab
