import Derived.Test.YtmoldheenagboaaLib32
set_option linter.unusedVariables false
set_option linter.unusedSectionVars false
set_option linter.unusedSimpArgs false
namespace Go.Ab
variable [b8]
variable {P : Program} {tab : TypeId → Option TI}
def Ok (G0 : Gh) (w0 : World) (old : List (Option Bool)) (Q : aI) (d : Q.den) (m : Nat) (a : Act) (w : World) : Prop :=
 ∃ G, aQ G w (aB (cU Q d).mem) ∧ (∀ t, (cU Q d).env t = .gone ∨ VR G w ((cU Q d).env t).down (a.tmps.getD t undef)) ∧ a.tmps.size = m ∧ a.defers = [] ∧ CR G0 w0 old G w
open Classical in
theorem Mq (hm : P.follows .mixedOrders = true) (ht : b9 P tab) {tbl : FuncId → List aD} (hT : aE P tbl) {ntmps : Nat} {p0 p1 p2 c : Code} (hc : c = .seq p0 (.seq p1 p2)) (hd : iR ntmps c = true) {E : aD} (hoE : FU E = true) (hble : Nat.ble E.a.slots.length ntmps = true)
  {an : dJ} {loops : Nat → Option aH} {old : List (Option Bool)} {n : Nat} (hold : ∀ d, gO (eH E.a.msh d) = old) (hl : nY tab tbl loops an old n c 0) {Q : aI} {d : Q.den} (hq : Q.ex = .normal) {a : E.a.den}
  (hrun : f5 (aL (eU [Q])) tab tbl loops an old c 0 ⟨wU (dG E.a.sh (P2.fst E.a.sh.dflt E.a.sh.un E.a.msh.un a)) ntmps, eH E.a.msh (P2.snd E.a.msh.dflt E.a.sh.un E.a.msh.un a)⟩ (fun e st => mJ false [Q] e st) = some d)
  {G : Gh} {w : World} {as : List AV} {m : aW} {z : Array Value} (hle : Jq E as m a) (hM : aQ G w m) (O : nE G w as z) {X : Exit → Act → World → Prop}
  {Y0 Y1 : Exit → Act → World → Prop} (hX : ∀ act w', Ok G w old Q d ntmps act w' → X .normal act w') : p0.wp P (Exit.then (p1.wp P (Exit.then (p2.wp P X) Y1)) Y0) { tmps := z ++ Array.replicate (ntmps - z.size) undef, defers := [] } w := by
 have hto : ∀ g, (tbl g).all FU = true := fun g => yi2.2 fun E hE => (hT g E hE).1
 have htb : ∀ g, ∀ E ∈ tbl g, nQ P g E := fun g E hE => (hT g E hE).2
 have W := hoE
 simp only [FU, yc] at W
 obtain ⟨hlen, hls, rfl⟩ := hle
 have hC := sT htb
 have Z := kE.all (w := w) hM.lab W.1.1.1 hls
 have N := Z.vrs O
 let k1 : Ex → St → Option Unit := fun e st => if e = .normal ∧ st.mem = aB (cU Q d).mem ∧ st.tmps.length = ntmps ∧ ∀ t, (cU Q d).env t = .gone ∨ (iB st.tmps t = some ((cU Q d).env t).down ∧ dV ((cU Q d).env t).down = false) then some () else none
 have hlenA : (dG E.a.sh (P2.fst E.a.sh.dflt E.a.sh.un E.a.msh.un a)).length ≤ ntmps := by
  rw [← aK, ← Z.len, hlen]; exact nl.1 hble
 have K := w5 ht (Fk hto) (n := n) (m := ntmps) c hd (R1 := Unit) (r1 := ()) (k1 := k1) hl (yW (n := ntmps) fun v O => m6 O)
  (by rw [yj, yc3, aK]; omega) hrun (fun e H tmps' h1 h2 h3 => ?_)
 ·have hkinds : iM (aB (eH E.a.msh (P2.snd E.a.msh.dflt E.a.sh.un E.a.msh.un a))) = old := (iQ _).trans (hold _)
  have U : ∀ {e st}, e ≠ .normal → k1 e st ≠ some () := fun {e st} hne h => by
   have h : (if e = .normal ∧ st.mem = aB (cU Q d).mem ∧ st.tmps.length = ntmps ∧ ∀ t, (cU Q d).env t = .gone ∨ (iB st.tmps t = some ((cU Q d).env t).down ∧ dV ((cU Q d).env t).down = false) then some () else none) = some () := h
   rw [if_neg (fun hh => hne hh.1)] at h; cases h
  subst hc
  simp only [dF] at K
  refine lV hC (wF hm hC an) p0 K (G := G) ⟨hM, ?_, fun j x V => ?_, rfl⟩ (CR.refl G w _) fun e H G' w' a' J Y hI => ?_
  ·have hl2 : (dG E.a.sh (P2.fst E.a.sh.dflt E.a.sh.un E.a.msh.un a)).length = z.size := by rw [← aK]; exact N.1
   simp only [yj, yc3, Array.size_append, Array.size_replicate, N.1, hl2]
  ·right
   have O := N
   generalize KV.downs (dG E.a.sh (P2.fst E.a.sh.dflt E.a.sh.un E.a.msh.un a)) = args at V O
   have hl2 : (dG E.a.sh (P2.fst E.a.sh.dflt E.a.sh.un E.a.msh.un a)).length = z.size := by rw [← aK]; exact N.1
   rw [hl2] at V
   by_cases hj : j < args.length
   ·rw [yo hj] at V
    have := O.2 j x V
    rw [yk, yl2 (by rw [← O.1]; exact hj), ← yk]; exact this
   ·rw [yq (by omega), yd2] at V
    split at V
    ·rename_i hlt
     obtain rfl := ya V
     rw [yk, Array.getElem?_append_right (by rw [← O.1]; omega), yw2, if_pos (by have := O.1; omega)]
     exact .lit _ rfl
    ·simp at V
  ·cases e with
   | exit id => exact absurd J (U (by intro h; cases h))
   | ret => exact absurd J (U (by intro h; cases h))
   | normal =>
   refine lV hC (wF hm hC an) p1 J Y hI fun e H G' w' a' J Y hI => ?_
   cases e with
   | exit id => exact absurd J (U (by intro h; cases h))
   | ret => exact absurd J (U (by intro h; cases h))
   | normal =>
   refine lV hC (wF hm hC an) p2 J Y hI fun e H G' w' a' J Y hI => ?_
   by_cases hg : e = .normal ∧ H.mem = aB (cU Q d).mem ∧ H.tmps.length = ntmps ∧ ∀ t, (cU Q d).env t = .gone ∨ (iB H.tmps t = some ((cU Q d).env t).down ∧ dV ((cU Q d).env t).down = false)
   ·obtain ⟨rfl, hmem, htl, hten⟩ := hg
    refine hX a' w' ⟨G', hmem ▸ Y.memr, fun t => ?_, ?_, Y.defers, hI⟩
    ·rcases hten t with h | ⟨h, hng⟩
     ·exact .inl h
     ·right
      rw [bO] at h
      rcases Y.tmps t _ h with h2 | h2
      ·rw [hng] at h2; cases h2
      ·exact h2
    ·have := Y.len
     rw [← this, htl]
   ·have J : (if e = .normal ∧ H.mem = aB (cU Q d).mem ∧ H.tmps.length = ntmps ∧ ∀ t, (cU Q d).env t = .gone ∨ (iB H.tmps t = some ((cU Q d).env t).down ∧ dV ((cU Q d).env t).down = false) then some () else none) = some () := J
    rw [if_neg hg] at J; cases J
 ·have h1' : mJ false [Q] e H = some d := h1
  obtain ⟨g1, g2, g3⟩ := q7 (l := [Q]) h1'
  refine if_pos ⟨?_, congrArg aB g2.symm, h3, fun t => ?_⟩
  ·have : e = FP.normal := g1.symm.trans hq
   rw [this]; rfl
  ·rcases g3 t with h | h
   ·exact .inl h
   ·rcases h2 t with h4 | ⟨h4, h5⟩
    ·exact .inl (h.trans h4)
    ·have e2 : (cU Q d).env t = H.env t := h
     exact .inr (by rw [e2]; exact ⟨h4, h5⟩)
structure jU (B : Nat) (v : Value) (w W : World) : Prop where
 size : w.heap.size ≤ W.heap.size
 out : W.output = w.output
 os : W.os = w.os
 tape : W.tape = w.tape
 but : ∀ B', B' < w.heap.size → B' ≠ B → W.heap[B']? = w.heap[B']?
 obj : ∀ c el m, w.heap[B]? = some (.cells c el m) → ∃ c', W.heap[B]? = some (.cells c' el m) ∧ c'.size = c.size
 cell : cl W B 0 = some v
theorem jU.start {B : Nat} {v : Value} {w : World} (h : cl w B 0 = some v) : jU B v w w := ⟨yu _, rfl, rfl, rfl, fun _ _ _ => rfl, fun c el m h => ⟨c, h, rfl⟩, h⟩
theorem jU.grown {B : Nat} {v : Value} {w W K : World} {row : Option Nat} (h : jU B v w W) (z : W.grownBy K row) (O : ∀ r, row = some r → w.heap.size ≤ r) (N : B < w.heap.size) : jU B v w K := by
 have H : ∀ B', B' < w.heap.size → K.heap[B']? = W.heap[B']? := fun B' H => z.block B' (yr1 H h.size) (fun e => by have := O B' e.symm; omega)
 exact ⟨yt1 h.size z.size, z.output.trans h.out, z.os.trans h.os, z.tape.trans h.tape, fun B' J U => (H B' J).trans (h.but B' J U), fun c el m J => by rw [H B N]; exact h.obj c el m J, (dU (H B N) 0).trans h.cell⟩
theorem jU.set {B : Nat} {v H : Value} {w W : World} (h : jU B v w W) : jU B H w (W.setCell ⟨B, 0, none⟩ H) where
 size := by rw [World.size_setCell]; exact h.size
 out := h.out
 os := h.os
 tape := h.tape
 but B' h1 z := by
  rw [← h.but B' h1 z]
  unfold World.setCell
  simp only [yt2]
  rw [if_neg (fun e => z e.symm)]
 obj c el m h1 := by
  obtain ⟨J, z, K⟩ := h.obj c el m h1
  refine ⟨J.setIfInBounds 0 H, ?_, by simp [K]⟩
  unfold World.setCell
  simp only [yt2, z]
  simp
 cell := World.cell?_setCell_same' _ _ _ (by show (cl W B 0).isSome = true; rw [h.cell]; rfl)
theorem jU.memR {G : Gh} {w W : World} {mem : aW} {b : Nat} {x : c7} {L : rO} {B : Nat} {k : IntKind} {v v' : Int} (z : jU B (.int k v') w W) (V : aQ G w mem) (hx : mem[b]? = some (some x)) (hf : x.frz = false) (hL : G.loc b x.gen = some L) (hB : L.blk = some B)
  (hrow : x.row = .cells 1 [.lit (.int k v)]) : Ev G w W ∧ dA G (G.put b x.gen L) ∧ aQ (G.put b x.gen L) W (mem.set b (some { x with row := .cells 1 [.lit (.int k v')] })) := by
 have hbox := V.box b x hx
 obtain ⟨o, hl, hm⟩ := hbox.loc
 obtain rfl := ya (hL.symm.trans hl)
 obtain rfl : o = some B := hB
 obtain ⟨h1, h2, h3, h4, h5⟩ := hm
 have hnp := h5 hf
 have hev : Ev G w W := by
  refine ⟨z.size, z.out, z.os, fun B' hb hn => z.but B' hb (fun e => hn (e ▸ h1)), fun B' o N => ?_, fun β B' o hp => ?_, fun B' o N => ?_, z.tape⟩
  ·by_cases e : B' = B
   ·subst e
    obtain ⟨c, el, lo, Z, U, _⟩ := h3
    obtain ⟨c', H, K⟩ := z.obj c el (lo, Z) U
    unfold cl World.cell? at N ⊢
    simp only [U, H, Option.isSome_none, yy1, if_false] at N ⊢
    rcases yu1 o c.size with h | h
    ·rw [yi1 (by rw [K]; exact h)]; rfl
    ·rw [yg3 h] at N; cases N
   ·rw [dU (z.but B' (B3 N) e)]; exact N
  ·have e : B' ≠ B := fun e => hnp β o (e ▸ hp)
   exact dU (z.but B' (V.away β B' o hp) e) o
  ·by_cases e : B' = B
   ·subst e
    obtain ⟨c, el, lo, Z, U, _⟩ := h3
    obtain ⟨c', H, K⟩ := z.obj c el (lo, Z) U
    unfold World.frozen?
    simp only [U, H]
   ·exact pJ (z.but B' (B3 N) e) o
 have O : G.loc b x.gen = none ∨ G.loc b x.gen = some (⟨some B, x.row.e, x.row.len⟩ : rO) := .inr hl
 refine ⟨hev, dA.put O, V.upd (x' := { x with row := .cells 1 [.lit (.int k v')] }) hev (yf.1 hx).1 O (fun b' y Lb B' Y hy J hb => ?_) (fun B' hb' b' y Lb Y hy J e => ?_) (fun g hg => V.gens b x g hx hg) ?_⟩
 ·exact z.but B' (V.blk_lt hy J hb) (fun e => Y (V.apart b' b y x Lb _ B hy hx J hl (by rw [hb, e]) rfl))
 ·exact Y (V.apart b' b y x Lb _ B' hy hx J hl e hb')
 ·refine ⟨yu _, some B, ?_, h1, yr1 h2 z.size, ?_, ?_, fun hf' => h5 hf⟩
  ·rw [Gh.put_self, hrow]; rfl
  ·obtain ⟨c, el, lo, Z, U, hd⟩ := h3
   obtain ⟨c', H, K⟩ := z.obj c el (lo, Z) U
   exact ⟨c', el, lo, Z, H, by rw [K]; exact hd⟩
  ·refine ⟨rfl, fun j y hj => ?_⟩
   match j, hj with
   | 0, hj =>
    obtain rfl := ya hj
    exact ⟨_, z.cell, rfl, .lit _ rfl⟩
   | j + 1, hj => cases hj
theorem Ld.of_lit {G0 G : Gh} {w0 w : World} {mem K mr : aW} {v : Value} (hv : jT v = true) (O : CR G0 w0 (iM mem) G w) (hM : aQ G w K) (U : oU (iM mem) [.lit v] K = some ([.lit v], mr)) : ∃ G', Ld G0 w0 mem (.lit v, mr) G' w v := by
 obtain ⟨f', G2, hr, hm, Z, V, Y, hk, N, H, J⟩ := o0 hM U
 refine ⟨G2, .lit v hv, O.ev, hm.trans O.mine, fun β B o h => by rw [Z]; exact O.prot β B o h, fun β B o h => O.new β B o (by rw [Z] at h; exact h), V, N, fun j x hx => ?_, fun j hj => ?_⟩
 ·have z : (iM mem)[j]? = some (some x.row.isCells) := by simp [iM, hx]
  obtain ⟨y, hy, W⟩ := H j _ z
  refine ⟨y, hy, W, fun U L hL => ?_⟩
  rw [U] at z
  exact hk j z L (O.keep j z L hL)
 ·exact J j (by simp [iM, hj])
theorem J0 {G : Gh} {w : World} {β : Bool} {k : IntKind} {t : List Int} {cv : Value} (h : VR G w (.imm β (.ints k t)) cv) :
  (∃ a, cv = .slice a 0 0 ∧ t = []) ∨ ∃ b z cap, cv = .slice (some ⟨b, z, none⟩) t.length cap ∧ ∀ (j : Nat) (x : Int), t[j]? = some x → cl w b (z + j) = some (.int k x) ∧ G.prot β b (z + j) := by
 cases h with
 | imm _ _ _ h hs =>
  cases h with
  | intsNil _ a => exact .inl ⟨a, rfl, rfl⟩
  | ints _ _ B o cap H h => exact .inr ⟨B, o, cap, rfl, h⟩
theorem D7 {G : Gh} {w : World} {b : Nat} {cv : Value} (h : VR G w (.ptr b 0 0 0) cv) : ∃ L B, G.loc b 0 = some L ∧ L.blk = some B ∧ cv = .pointer (some ⟨B, 0, none⟩) := by
 cases h with
 | ptr _ _ _ _ L B z H => exact ⟨L, B, z, H, by simp⟩
theorem JC {G : Gh} {w : World} {f : Fn} {b : Nat} {cv : Value} (h : VR G w (.fn f [] [.ptr b 0 0 0]) cv) : ∃ L B, G.loc b 0 = some L ∧ L.blk = some B ∧ cv = .func f #[] #[.pointer (some ⟨B, 0, none⟩)] := by
 cases h with
 | fn _ _ _ fv cv K H hf N =>
  obtain rfl := Array.eq_empty_of_size_eq_zero K.symm
  obtain ⟨l⟩ := cv
  match l, H with
  | [u], H =>
   obtain ⟨L, B, O, J, z⟩ := D7 (N 0 _ rfl)
   have z : u = .pointer (some ⟨B, 0, none⟩) := z
   exact ⟨L, B, O, J, by rw [z]⟩
theorem GE {G : Gh} {w : World} {mem : aW} (U : aQ G w mem) {b : Nat} {x : c7} {L : rO} {B : Nat} {v : AV} (N : mem[b]? = some (some x)) (J : G.loc b x.gen = some L) (W : L.blk = some B) (z : x.row = .cells 1 [v]) :
  B < w.heap.size ∧ iH w B ∧ (x.frz = false → ∀ β o, ¬ G.prot β B o) ∧ ∃ cv, cl w B 0 = some cv ∧ VR G w v cv := by
 obtain ⟨o, K, hm⟩ := (U.box b x N).loc
 obtain rfl := ya (J.symm.trans K)
 obtain rfl : o = some B := W
 obtain ⟨h1, Z, h3, H, V⟩ := hm
 rw [z] at H
 obtain ⟨cv, O, _, Y⟩ := H.2 0 v rfl
 exact ⟨Z, h3, V, cv, O, Y⟩
theorem Kz : ∀ l : List Value, l.length = 22 → ∃ t0 t1 t2 t3 t4 t5 t6 t7 t8 t9 O N J K H V U t17 z Z W Y, l = [t0, t1, t2, t3, t4, t5, t6, t7, t8, t9, O, N, J, K, H, V, U, t17, z, Z, W, Y] := by
 intro l h
 have hh : ∀ i (hi : i < 22), ∃ x, l[i]? = some x := fun i hi => ⟨l[i]'(by omega), ye _⟩
 iterate 22 (rcases l with _ | ⟨_, l⟩; · simp at h)
 rcases l with _ | ⟨_, l⟩
 ·exact ⟨_, _, _, _, _, _, _, _, _, _, _, _, _, _, _, _, _, _, _, _, _, _, rfl⟩
 ·simp at h
end Go.Ab
