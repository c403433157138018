import Derived.Test.YtdlbbdbbpoggfaaLib33
set_option linter.unusedVariables false
set_option linter.unusedSectionVars false
set_option linter.unusedSimpArgs false
namespace Go.Ab
variable [b4]
variable {P : Program} {tab : TypeId → Option TI}
def QI (G0 : Gh) (w0 : World) (old : List (Option Bool)) (Q : jD) (d : Q.den) (m : Nat) (a : Act) (w : World) : Prop :=
 ∃ G, aF G w (aB (dZ Q d).mem) ∧ (∀ t, (dZ Q d).env t = .gone ∨ VR G w ((dZ Q d).env t).down (a.tmps.getD t undef)) ∧ a.tmps.size = m ∧ a.defers = [] ∧ CR G0 w0 old G w
open Classical in
theorem Pv (hm : P.follows .mixedOrders = true) (ht : bI P tab) {tbl : FuncId → List aC} (hT : rH P tbl) {ntmps : Nat} {p0 p1 p2 c : Code} (hc : c = .seq p0 (.seq p1 p2)) (hd : j2 ntmps c = true) {E : aC} (hoE : J7 E = true) (hble : Nat.ble E.a.slots.length ntmps = true)
  {an : lA} {loops : Nat → Option aL} {old : List (Option Bool)} {n : Nat} (hold : ∀ d, e7 (e8 E.a.msh d) = old) (hl : pN tab tbl loops an old n c 0) {Q : jD} {d : Q.den} (hq : Q.ex = .normal) {a : E.a.den}
  (hrun : iF (aP (eN [Q])) tab tbl loops an old c 0 ⟨As (c9 E.a.sh (P2.fst E.a.sh.dflt E.a.sh.un E.a.msh.un a)) ntmps, e8 E.a.msh (P2.snd E.a.msh.dflt E.a.sh.un E.a.msh.un a)⟩ (fun e st => rX false [Q] e st) = some d)
  {G : Gh} {w : World} {as : List AV} {m : aH} {H : Array Value} (hle : MC E as m a) (hM : aF G w m) (O : m8 G w as H) {X : Exit → Act → World → Prop}
  {Y0 Y1 : Exit → Act → World → Prop} (hX : ∀ act w', QI G w old Q d ntmps act w' → X .normal act w') : p0.wp P (Exit.then (p1.wp P (Exit.then (p2.wp P X) Y1)) Y0) { tmps := H ++ Array.replicate (ntmps - H.size) undef, defers := [] } w := by
 have hto : ∀ g, (tbl g).all J7 = true := fun g => yr1.2 fun E hE => (hT g E hE).1
 have htb : ∀ g, ∀ E ∈ tbl g, pL P g E := fun g E hE => (hT g E hE).2
 have W := hoE
 simp only [J7, yb] at W
 obtain ⟨hlen, hls, rfl⟩ := hle
 have hC := zC htb
 have U := lC.all (w := w) hM.lab W.1.1.1 hls
 have M := U.vrs O
 let k1 : Ex → St → Option Unit := fun e st => if e = .normal ∧ st.mem = aB (dZ Q d).mem ∧ st.tmps.length = ntmps ∧ ∀ t, (dZ Q d).env t = .gone ∨ (dX st.tmps t = some ((dZ Q d).env t).down ∧ eL ((dZ Q d).env t).down = false) then some () else none
 have hlenA : (c9 E.a.sh (P2.fst E.a.sh.dflt E.a.sh.un E.a.msh.un a)).length ≤ ntmps := by
  rw [← aG, ← U.len, hlen]; exact nl.1 hble
 have K := BH ht (HQ hto) (n := n) (m := ntmps) c hd (R1 := Unit) (r1 := ()) (k1 := k1) hl (BR (n := ntmps) fun v O => oL O)
  (by rw [yi1, yv2, aG]; omega) hrun (fun e I tmps' h1 Z h3 => ?_)
 ·have hkinds : i9 (aB (e8 E.a.msh (P2.snd E.a.msh.dflt E.a.sh.un E.a.msh.un a))) = old := (j9 _).trans (hold _)
  have N : ∀ {e st}, e ≠ .normal → k1 e st ≠ some () := fun {e st} hne h => by
   have h : (if e = .normal ∧ st.mem = aB (dZ Q d).mem ∧ st.tmps.length = ntmps ∧ ∀ t, (dZ Q d).env t = .gone ∨ (dX st.tmps t = some ((dZ Q d).env t).down ∧ eL ((dZ Q d).env t).down = false) then some () else none) = some () := h
   rw [if_neg (fun hh => hne hh.1)] at h; cases h
  subst hc
  simp only [eH] at K
  refine nF hC (AI hm hC an) p0 K (G := G) ⟨hM, ?_, fun j x V => ?_, rfl⟩ (CR.refl G w _) fun e I G' w' a' J hS hI => ?_
  ·have Y : (c9 E.a.sh (P2.fst E.a.sh.dflt E.a.sh.un E.a.msh.un a)).length = H.size := by rw [← aG]; exact M.1
   simp only [yi1, yv2, Array.size_append, Array.size_replicate, M.1, Y]
  ·right
   have O := M
   generalize KV.downs (c9 E.a.sh (P2.fst E.a.sh.dflt E.a.sh.un E.a.msh.un a)) = args at V O
   have Y : (c9 E.a.sh (P2.fst E.a.sh.dflt E.a.sh.un E.a.msh.un a)).length = H.size := by rw [← aG]; exact M.1
   rw [Y] at V
   by_cases hj : j < args.length
   ·rw [yn hj] at V
    have := O.2 j x V
    rw [yj, yn2 (by rw [← O.1]; exact hj), ← yj]; exact this
   ·rw [yu (by omega), yw1] at V
    split at V
    ·rename_i hlt
     obtain rfl := ya V
     rw [yj, Array.getElem?_append_right (by rw [← O.1]; omega), yw2, if_pos (by have := O.1; omega)]
     exact .lit _ rfl
    ·simp at V
  ·cases e with
   | exit id => exact absurd J (N (by intro h; cases h))
   | ret => exact absurd J (N (by intro h; cases h))
   | normal =>
   refine nF hC (AI hm hC an) p1 J hS hI fun e I G' w' a' J hS hI => ?_
   cases e with
   | exit id => exact absurd J (N (by intro h; cases h))
   | ret => exact absurd J (N (by intro h; cases h))
   | normal =>
   refine nF hC (AI hm hC an) p2 J hS hI fun e I G' w' a' J hS hI => ?_
   by_cases hg : e = .normal ∧ I.mem = aB (dZ Q d).mem ∧ I.tmps.length = ntmps ∧ ∀ t, (dZ Q d).env t = .gone ∨ (dX I.tmps t = some ((dZ Q d).env t).down ∧ eL ((dZ Q d).env t).down = false)
   ·obtain ⟨rfl, hmem, htl, hten⟩ := hg
    refine hX a' w' ⟨G', hmem ▸ hS.memr, fun t => ?_, ?_, hS.defers, hI⟩
    ·rcases hten t with h | ⟨h, hng⟩
     ·exact .inl h
     ·right
      rw [aX] at h
      rcases hS.tmps t _ h with Z | Z
      ·rw [hng] at Z; cases Z
      ·exact Z
    ·have := hS.len
     rw [← this, htl]
   ·have J : (if e = .normal ∧ I.mem = aB (dZ Q d).mem ∧ I.tmps.length = ntmps ∧ ∀ t, (dZ Q d).env t = .gone ∨ (dX I.tmps t = some ((dZ Q d).env t).down ∧ eL ((dZ Q d).env t).down = false) then some () else none) = some () := J
    rw [if_neg hg] at J; cases J
 ·have h1' : rX false [Q] e I = some d := h1
  obtain ⟨g1, g2, g3⟩ := wE (l := [Q]) h1'
  refine if_pos ⟨?_, congrArg aB g2.symm, h3, fun t => ?_⟩
  ·have : e = Jk.normal := g1.symm.trans hq
   rw [this]; rfl
  ·rcases g3 t with h | h
   ·exact .inl h
   ·rcases Z t with h4 | ⟨h4, h5⟩
    ·exact .inl (h.trans h4)
    ·have e2 : (dZ Q d).env t = I.env t := h
     exact .inr (by rw [e2]; exact ⟨h4, h5⟩)
structure lF (B : Nat) (v : Value) (w W : World) : Prop where
 size : w.heap.size ≤ W.heap.size
 out : W.output = w.output
 os : W.os = w.os
 tape : W.tape = w.tape
 but : ∀ B', B' < w.heap.size → B' ≠ B → W.heap[B']? = w.heap[B']?
 obj : ∀ c el m, w.heap[B]? = some (.cells c el m) → ∃ c', W.heap[B]? = some (.cells c' el m) ∧ c'.size = c.size
 cell : cl W B 0 = some v
theorem lF.start {B : Nat} {v : Value} {w : World} (h : cl w B 0 = some v) : lF B v w w := ⟨yy _, rfl, rfl, rfl, fun _ _ _ => rfl, fun c el m h => ⟨c, h, rfl⟩, h⟩
theorem lF.grown {B : Nat} {v : Value} {w W K : World} {row : Option Nat} (h : lF B v w W) (I : W.grownBy K row) (hr : ∀ r, row = some r → w.heap.size ≤ r) (hB : B < w.heap.size) : lF B v w K := by
 have H : ∀ B', B' < w.heap.size → K.heap[B']? = W.heap[B']? := fun B' H => I.block B' (yh1 H h.size) (fun e => by have := hr B' e.symm; omega)
 exact ⟨ya2 h.size I.size, I.output.trans h.out, I.os.trans h.os, I.tape.trans h.tape, fun B' J M => (H B' J).trans (h.but B' J M), fun c el m J => by rw [H B hB]; exact h.obj c el m J, (cG (H B hB) 0).trans h.cell⟩
theorem lF.set {B : Nat} {v I : Value} {w W : World} (h : lF B v w W) : lF B I w (W.setCell ⟨B, 0, none⟩ I) where
 size := by rw [World.size_setCell]; exact h.size
 out := h.out
 os := h.os
 tape := h.tape
 but B' h1 H := by
  rw [← h.but B' h1 H]
  unfold World.setCell
  simp only [yt2]
  rw [if_neg (fun e => H e.symm)]
 obj c el m h1 := by
  obtain ⟨J, H, K⟩ := h.obj c el m h1
  refine ⟨J.setIfInBounds 0 I, ?_, by simp [K]⟩
  unfold World.setCell
  simp only [yt2, H]
  simp
 cell := World.cell?_setCell_same' _ _ _ (by show (cl W B 0).isSome = true; rw [h.cell]; rfl)
theorem lF.memR {G : Gh} {w W : World} {mem : aH} {b : Nat} {x : a9} {L : z5} {B : Nat} {k : IntKind} {v v' : Int} (hT : lF B (.int k v') w W) (hM : aF G w mem) (Y : mem[b]? = some (some x)) (hf : x.frz = false) (hL : G.loc b x.gen = some L) (hB : L.blk = some B)
  (hrow : x.row = .cells 1 [.lit (.int k v)]) : Ev G w W ∧ c8 G (G.put b x.gen L) ∧ aF (G.put b x.gen L) W (mem.set b (some { x with row := .cells 1 [.lit (.int k v')] })) := by
 have V := hM.box b x Y
 obtain ⟨o, hl, hm⟩ := V.loc
 obtain rfl := ya (hL.symm.trans hl)
 obtain rfl : o = some B := hB
 obtain ⟨h1, h2, h3, h4, h5⟩ := hm
 have hnp := h5 hf
 have O : Ev G w W := by
  refine ⟨hT.size, hT.out, hT.os, fun B' hb hn => hT.but B' hb (fun e => hn (e ▸ h1)), fun B' o hs => ?_, fun β B' o hp => ?_, fun B' o hs => ?_, hT.tape⟩
  ·by_cases e : B' = B
   ·subst e
    obtain ⟨c, el, M, N, K, _⟩ := h3
    obtain ⟨c', H, I⟩ := hT.obj c el (M, N) K
    unfold cl World.cell? at hs ⊢
    simp only [K, H, Option.isSome_none, yi2, if_false] at hs ⊢
    rcases yc2 o c.size with h | h
    ·rw [yl1 (by rw [I]; exact h)]; rfl
    ·rw [yj3 h] at hs; cases hs
   ·rw [cG (hT.but B' (E1 hs) e)]; exact hs
  ·have e : B' ≠ B := fun e => hnp β o (e ▸ hp)
   exact cG (hT.but B' (hM.away β B' o hp) e) o
  ·by_cases e : B' = B
   ·subst e
    obtain ⟨c, el, M, N, K, _⟩ := h3
    obtain ⟨c', H, I⟩ := hT.obj c el (M, N) K
    unfold World.frozen?
    simp only [K, H]
   ·exact s6 (hT.but B' (E1 hs) e) o
 have J : G.loc b x.gen = none ∨ G.loc b x.gen = some (⟨some B, x.row.e, x.row.len⟩ : z5) := .inr hl
 have Z : eK G b x B := ⟨_, hl, rfl⟩
 refine ⟨O, c8.put J, hM.upd (x' := { x with row := .cells 1 [.lit (.int k v')] }) O (yd.1 Y).1 J (.plain rfl (fun B' hO => hT.but B' (hM.other hO).2.1 (hM.other_ne Y Z hO)) (fun C hC hO => hM.other_ne Y Z hO (ya hC).symm)) (fun g hg => hM.gens b x g Y hg) ?_⟩
 ·refine ⟨yy _, some B, ?_, h1, yh1 h2 hT.size, ?_, ?_, fun hf' => h5 hf⟩
  ·rw [Gh.put_self, hrow]; rfl
  ·obtain ⟨c, el, M, N, K, hd⟩ := h3
   obtain ⟨c', H, I⟩ := hT.obj c el (M, N) K
   exact ⟨c', el, M, N, H, by rw [I]; exact hd⟩
  ·refine ⟨rfl, fun j y U => ?_⟩
   match j, U with
   | 0, U =>
    obtain rfl := ya U
    exact ⟨_, hT.cell, rfl, .lit _ rfl⟩
   | j + 1, U => cases U
theorem NY.of_lit {G0 G : Gh} {w0 w : World} {mem J mr : aH} {v : Value} (hv : j7 v = true) (hI : CR G0 w0 (i9 mem) G w) (hM : aF G w J) (hc : rK true (i9 mem) [.lit v] J = some ([.lit v], mr)) : ∃ Z, NY G0 w0 mem (.lit v, mr) Z w v := by
 obtain ⟨f', G1, G2, hr, hm, V, hp1, O, W, N, H, M, I⟩ := sF hM hc
 refine ⟨G2, .lit v hv, hI.ev, hm.trans hI.mine, fun β B o h => by rw [V]; exact hI.prot β B o h, fun β B o h => hI.new β B o (by rw [V] at h; exact h), O, (fun j y h => M j y (by simpa [i9] using h)), fun j x hx => ?_, fun j hj => ?_⟩
 ·have K : (i9 mem)[j]? = some (some x.row.isCells) := by simp [i9, hx]
  obtain ⟨y, hy, U, Y⟩ := H j _ K
  exact ⟨y, hy, U, fun L hL => Y L (hI.keep j _ K L hL)⟩
 ·exact I j (by simp [i9, hj])
theorem Mj {G : Gh} {w : World} {β : Bool} {k : IntKind} {t : List Int} {cv : Value} (h : VR G w (.imm β (.ints k t)) cv) :
  (∃ a, cv = .slice a 0 0 ∧ t = []) ∨ ∃ b H cap, cv = .slice (some ⟨b, H, none⟩) t.length cap ∧ ∀ (j : Nat) (x : Int), t[j]? = some x → cl w b (H + j) = some (.int k x) ∧ G.prot β b (H + j) := by
 cases h with
 | imm _ _ _ h hs =>
  cases h with
  | intsNil _ a => exact .inl ⟨a, rfl, rfl⟩
  | ints _ _ B o cap I h => exact .inr ⟨B, o, cap, rfl, h⟩
theorem GJ {G : Gh} {w : World} {b : Nat} {cv : Value} (h : VR G w (.ptr b 0 0 0) cv) : ∃ L B, G.loc b 0 = some L ∧ L.blk = some B ∧ cv = .pointer (some ⟨B, 0, none⟩) := by
 cases h with
 | ptr _ _ _ _ L B I H => exact ⟨L, B, I, H, by simp⟩
theorem M6 {G : Gh} {w : World} {f : Fn} {b : Nat} {cv : Value} (h : VR G w (.fn f [] [.ptr b 0 0 0]) cv) : ∃ L B, G.loc b 0 = some L ∧ L.blk = some B ∧ cv = .func f #[] #[.pointer (some ⟨B, 0, none⟩)] := by
 cases h with
 | fn _ _ _ fv cv M I hf J =>
  obtain rfl := Array.eq_empty_of_size_eq_zero M.symm
  obtain ⟨l⟩ := cv
  match l, I with
  | [u], I =>
   obtain ⟨L, B, N, K, H⟩ := GJ (J 0 _ rfl)
   have H : u = .pointer (some ⟨B, 0, none⟩) := H
   exact ⟨L, B, N, K, by rw [H]⟩
theorem Jt {G : Gh} {w : World} {mem : aH} (hM : aF G w mem) {b : Nat} {x : a9} {L : z5} {B : Nat} {v : AV} (O : mem[b]? = some (some x)) (hL : G.loc b x.gen = some L) (hB : L.blk = some B) (H : x.row = .cells 1 [v]) :
  B < w.heap.size ∧ fR w B ∧ (x.frz = false → ∀ β o, ¬ G.prot β B o) ∧ ∃ cv, cl w B 0 = some cv ∧ VR G w v cv := by
 obtain ⟨o, M, hm⟩ := (hM.box b x O).loc
 obtain rfl := ya (hL.symm.trans M)
 obtain rfl : o = some B := hB
 obtain ⟨h1, N, U, I, J⟩ := hm
 rw [H] at I
 obtain ⟨cv, K, _, V⟩ := I.2 0 v rfl
 exact ⟨N, U, J, cv, K, V⟩
theorem NM : ∀ l : List Value, l.length = 22 → ∃ t0 t1 t2 t3 t4 t5 t6 t7 t8 t9 O K J M Y Z W H V U N I, l = [t0, t1, t2, t3, t4, t5, t6, t7, t8, t9, O, K, J, M, Y, Z, W, H, V, U, N, I] := by
 intro l h
 have hh : ∀ i (hi : i < 22), ∃ x, l[i]? = some x := fun i hi => ⟨l[i]'(by omega), yf _⟩
 iterate 22 (rcases l with _ | ⟨_, l⟩; · simp at h)
 rcases l with _ | ⟨_, l⟩
 ·exact ⟨_, _, _, _, _, _, _, _, _, _, _, _, _, _, _, _, _, _, _, _, _, _, rfl⟩
 ·simp at h
end Go.Ab
