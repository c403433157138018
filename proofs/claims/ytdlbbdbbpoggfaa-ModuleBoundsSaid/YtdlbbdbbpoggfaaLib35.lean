import Derived.Test.YtdlbbdbbpoggfaaLib33
set_option linter.unusedVariables false
set_option linter.unusedSectionVars false
set_option linter.unusedSimpArgs false
namespace Go.Ab
variable [b4]
variable {P : Program} {tab : TypeId → Option TI}
def Qk (G0 : Gh) (w0 : World) (old : List (Option Bool)) (Q : jD) (d : Q.den) (m : Nat) (a : Act) (w : World) : Prop :=
 ∃ G, aF G w (aB (dY Q d).mem) ∧ (∀ t, (dY Q d).env t = .gone ∨ VR G w ((dY Q d).env t).down (a.tmps.getD t undef)) ∧ a.tmps.size = m ∧ a.defers = [] ∧ CS G0 w0 old G w
open Classical in
theorem Pt (hm : P.follows .mixedOrders = true) (ht : bG P tab) {tbl : FuncId → List aC} (hT : q9 P tbl) {ntmps : Nat} {p0 p1 p2 c : Code} (hc : c = .seq p0 (.seq p1 p2)) (hd : kD ntmps c = true) {E : aC} (hoE : J5 E = true) (hble : Nat.ble E.a.slots.length ntmps = true)
  {an : lC} {loops : Nat → Option aL} {old : List (Option Bool)} {n : Nat} (hold : ∀ d, e9 (e8 E.a.msh d) = old) (hl : qE tab tbl loops an old n c 0) {Q : jD} {d : Q.den} (hq : Q.ex = .normal) {a : E.a.den}
  (hrun : gY (aP (eO [Q])) tab tbl loops an old c 0 ⟨Ad (c9 E.a.sh (P2.fst E.a.sh.dflt E.a.sh.un E.a.msh.un a)) ntmps, e8 E.a.msh (P2.snd E.a.msh.dflt E.a.sh.un E.a.msh.un a)⟩ (fun e st => sR false [Q] e st) = some d)
  {G : Gh} {w : World} {as : List AV} {m : aH} {I : Array Value} (hle : Mo E as m a) (hM : aF G w m) (M : nC G w as I) {X : Exit → Act → World → Prop}
  {Y0 Y1 : Exit → Act → World → Prop} (hX : ∀ act w', Qk G w old Q d ntmps act w' → X .normal act w') : p0.wp P (Exit.then (p1.wp P (Exit.then (p2.wp P X) Y1)) Y0) { tmps := I ++ Array.replicate (ntmps - I.size) undef, defers := [] } w := by
 have hto : ∀ g, (tbl g).all J5 = true := fun g => yr1.2 fun E hE => (hT g E hE).1
 have htb : ∀ g, ∀ E ∈ tbl g, qS P g E := fun g E hE => (hT g E hE).2
 have W := hoE
 simp only [J5, yb] at W
 obtain ⟨hlen, hls, rfl⟩ := hle
 have hC := yW htb
 have U := lA.all (w := w) hM.lab W.1.1.1 hls
 have N := U.vrs M
 let k1 : Ex → St → Option Unit := fun e st => if e = .normal ∧ st.mem = aB (dY Q d).mem ∧ st.tmps.length = ntmps ∧ ∀ t, (dY Q d).env t = .gone ∨ (dZ st.tmps t = some ((dY Q d).env t).down ∧ eL ((dY Q d).env t).down = false) then some () else none
 have hlenA : (c9 E.a.sh (P2.fst E.a.sh.dflt E.a.sh.un E.a.msh.un a)).length ≤ ntmps := by
  rw [← aG, ← U.len, hlen]; exact nl.1 hble
 have K := A7 ht (Hw hto) (n := n) (m := ntmps) c hd (R1 := Unit) (r1 := ()) (k1 := k1) hl (Bx (n := ntmps) fun v M => o7 M)
  (by rw [yi1, yv2, aG]; omega) hrun (fun e H tmps' h1 Z h3 => ?_)
 ·have hkinds : i5 (aB (e8 E.a.msh (P2.snd E.a.msh.dflt E.a.sh.un E.a.msh.un a))) = old := (j9 _).trans (hold _)
  have O : ∀ {e st}, e ≠ .normal → k1 e st ≠ some () := fun {e st} hne h => by
   have h : (if e = .normal ∧ st.mem = aB (dY Q d).mem ∧ st.tmps.length = ntmps ∧ ∀ t, (dY Q d).env t = .gone ∨ (dZ st.tmps t = some ((dY Q d).env t).down ∧ eL ((dY Q d).env t).down = false) then some () else none) = some () := h
   rw [if_neg (fun hh => hne hh.1)] at h; cases h
  subst hc
  simp only [eF] at K
  refine nM hC (AO hm hC an) p0 K (G := G) ⟨hM, ?_, fun j x V => ?_, rfl⟩ (CS.refl G w _) fun e H G' w' a' J hS hI => ?_
  ·have Y : (c9 E.a.sh (P2.fst E.a.sh.dflt E.a.sh.un E.a.msh.un a)).length = I.size := by rw [← aG]; exact N.1
   simp only [yi1, yv2, Array.size_append, Array.size_replicate, N.1, Y]
  ·right
   have M := N
   generalize KV.downs (c9 E.a.sh (P2.fst E.a.sh.dflt E.a.sh.un E.a.msh.un a)) = args at V M
   have Y : (c9 E.a.sh (P2.fst E.a.sh.dflt E.a.sh.un E.a.msh.un a)).length = I.size := by rw [← aG]; exact N.1
   rw [Y] at V
   by_cases hj : j < args.length
   ·rw [yn hj] at V
    have := M.2 j x V
    rw [yj, yn2 (by rw [← M.1]; exact hj), ← yj]; exact this
   ·rw [yu (by omega), yw1] at V
    split at V
    ·rename_i hlt
     obtain rfl := ya V
     rw [yj, Array.getElem?_append_right (by rw [← M.1]; omega), yw2, if_pos (by have := M.1; omega)]
     exact .lit _ rfl
    ·simp at V
  ·cases e with
   | exit id => exact absurd J (O (by intro h; cases h))
   | ret => exact absurd J (O (by intro h; cases h))
   | normal =>
   refine nM hC (AO hm hC an) p1 J hS hI fun e H G' w' a' J hS hI => ?_
   cases e with
   | exit id => exact absurd J (O (by intro h; cases h))
   | ret => exact absurd J (O (by intro h; cases h))
   | normal =>
   refine nM hC (AO hm hC an) p2 J hS hI fun e H G' w' a' J hS hI => ?_
   by_cases hg : e = .normal ∧ H.mem = aB (dY Q d).mem ∧ H.tmps.length = ntmps ∧ ∀ t, (dY Q d).env t = .gone ∨ (dZ H.tmps t = some ((dY Q d).env t).down ∧ eL ((dY Q d).env t).down = false)
   ·obtain ⟨rfl, hmem, htl, hten⟩ := hg
    refine hX a' w' ⟨G', hmem ▸ hS.memr, fun t => ?_, ?_, hS.defers, hI⟩
    ·rcases hten t with h | ⟨h, hng⟩
     ·exact .inl h
     ·right
      rw [aX] at h
      rcases hS.tmps t _ h with Z | Z
      ·rw [hng] at Z; cases Z
      ·exact Z
    ·have := hS.len
     rw [← this, htl]
   ·have J : (if e = .normal ∧ H.mem = aB (dY Q d).mem ∧ H.tmps.length = ntmps ∧ ∀ t, (dY Q d).env t = .gone ∨ (dZ H.tmps t = some ((dY Q d).env t).down ∧ eL ((dY Q d).env t).down = false) then some () else none) = some () := J
    rw [if_neg hg] at J; cases J
 ·have h1' : sR false [Q] e H = some d := h1
  obtain ⟨g1, g2, g3⟩ := wC (l := [Q]) h1'
  refine if_pos ⟨?_, congrArg aB g2.symm, h3, fun t => ?_⟩
  ·have : e = Iu.normal := g1.symm.trans hq
   rw [this]; rfl
  ·rcases g3 t with h | h
   ·exact .inl h
   ·rcases Z t with h4 | ⟨h4, h5⟩
    ·exact .inl (h.trans h4)
    ·have e2 : (dY Q d).env t = H.env t := h
     exact .inr (by rw [e2]; exact ⟨h4, h5⟩)
structure lJ (B : Nat) (v : Value) (w W : World) : Prop where
 size : w.heap.size ≤ W.heap.size
 out : W.output = w.output
 os : W.os = w.os
 tape : W.tape = w.tape
 but : ∀ B', B' < w.heap.size → B' ≠ B → W.heap[B']? = w.heap[B']?
 obj : ∀ c el m, w.heap[B]? = some (.cells c el m) → ∃ c', W.heap[B]? = some (.cells c' el m) ∧ c'.size = c.size
 cell : cl W B 0 = some v
theorem lJ.start {B : Nat} {v : Value} {w : World} (h : cl w B 0 = some v) : lJ B v w w := ⟨yy _, rfl, rfl, rfl, fun _ _ _ => rfl, fun c el m h => ⟨c, h, rfl⟩, h⟩
theorem lJ.grown {B : Nat} {v : Value} {w W K : World} {row : Option Nat} (h : lJ B v w W) (I : W.grownBy K row) (hr : ∀ r, row = some r → w.heap.size ≤ r) (hB : B < w.heap.size) : lJ B v w K := by
 have H : ∀ B', B' < w.heap.size → K.heap[B']? = W.heap[B']? := fun B' H => I.block B' (yh1 H h.size) (fun e => by have := hr B' e.symm; omega)
 exact ⟨ya2 h.size I.size, I.output.trans h.out, I.os.trans h.os, I.tape.trans h.tape, fun B' J M => (H B' J).trans (h.but B' J M), fun c el m J => by rw [H B hB]; exact h.obj c el m J, (cI (H B hB) 0).trans h.cell⟩
theorem lJ.set {B : Nat} {v I : Value} {w W : World} (h : lJ B v w W) : lJ B I w (W.setCell ⟨B, 0, none⟩ I) where
 size := by rw [World.size_setCell]; exact h.size
 out := h.out
 os := h.os
 tape := h.tape
 but B' h1 H := by
  rw [← h.but B' h1 H]
  unfold World.setCell
  simp only [yt2]
  rw [if_neg (fun e => H e.symm)]
 obj c el m h1 := by
  obtain ⟨K, H, J⟩ := h.obj c el m h1
  refine ⟨K.setIfInBounds 0 I, ?_, by simp [J]⟩
  unfold World.setCell
  simp only [yt2, H]
  simp
 cell := World.cell?_setCell_same' _ _ _ (by show (cl W B 0).isSome = true; rw [h.cell]; rfl)
theorem lJ.memR {G : Gh} {w W : World} {mem : aH} {b : Nat} {x : a9} {L : z4} {B : Nat} {k : IntKind} {v v' : Int} (hT : lJ B (.int k v') w W) (hM : aF G w mem) (hx : mem[b]? = some (some x)) (hf : x.frz = false) (hL : G.loc b x.gen = some L) (hB : L.blk = some B)
  (O : x.row = .cells 1 [.lit (.int k v)]) : Ev G w W ∧ c8 G (G.put b x.gen L) ∧ aF (G.put b x.gen L) W (mem.set b (some { x with row := .cells 1 [.lit (.int k v')] })) := by
 have Y := hM.box b x hx
 obtain ⟨o, hl, hm⟩ := Y.loc
 obtain rfl := ya (hL.symm.trans hl)
 obtain rfl : o = some B := hB
 obtain ⟨h1, h2, h3, h4, h5⟩ := hm
 have hnp := h5 hf
 have V : Ev G w W := by
  refine ⟨hT.size, hT.out, hT.os, fun B' hb hn => hT.but B' hb (fun e => hn (e ▸ h1)), fun B' o hs => ?_, fun β B' o hp => ?_, fun B' o hs => ?_, hT.tape⟩
  ·by_cases e : B' = B
   ·subst e
    obtain ⟨c, el, N, M, K, _⟩ := h3
    obtain ⟨c', H, I⟩ := hT.obj c el (N, M) K
    unfold cl World.cell? at hs ⊢
    simp only [K, H, Option.isSome_none, yi2, if_false] at hs ⊢
    rcases yc2 o c.size with h | h
    ·rw [yl1 (by rw [I]; exact h)]; rfl
    ·rw [yj3 h] at hs; cases hs
   ·rw [cI (hT.but B' (En hs) e)]; exact hs
  ·have e : B' ≠ B := fun e => hnp β o (e ▸ hp)
   exact cI (hT.but B' (hM.away β B' o hp) e) o
  ·by_cases e : B' = B
   ·subst e
    obtain ⟨c, el, N, M, K, _⟩ := h3
    obtain ⟨c', H, I⟩ := hT.obj c el (N, M) K
    unfold World.frozen?
    simp only [K, H]
   ·exact vF (hT.but B' (En hs) e) o
 have J : G.loc b x.gen = none ∨ G.loc b x.gen = some (⟨some B, x.row.e, x.row.len⟩ : z4) := .inr hl
 have Z : eK G b x B := ⟨_, hl, rfl⟩
 refine ⟨V, c8.put J, hM.upd (x' := { x with row := .cells 1 [.lit (.int k v')] }) V (yd.1 hx).1 J (.plain rfl (fun B' hO => hT.but B' (hM.other hO).2.1 (hM.other_ne hx Z hO)) (fun C hC hO => hM.other_ne hx Z hO (ya hC).symm)) (fun g hg => hM.gens b x g hx hg) ?_⟩
 ·refine ⟨yy _, some B, ?_, h1, yh1 h2 hT.size, ?_, ?_, fun hf' => h5 hf⟩
  ·rw [Gh.put_self, O]; rfl
  ·obtain ⟨c, el, N, M, K, hd⟩ := h3
   obtain ⟨c', H, I⟩ := hT.obj c el (N, M) K
   exact ⟨c', el, N, M, H, by rw [I]; exact hd⟩
  ·refine ⟨rfl, fun j y U => ?_⟩
   match j, U with
   | 0, U =>
    obtain rfl := ya U
    exact ⟨_, hT.cell, rfl, .lit _ rfl⟩
   | j + 1, U => cases U
theorem Oe.of_lit {G0 G : Gh} {w0 w : World} {mem K mr : aH} {v : Value} (Z : j7 v = true) (hI : CS G0 w0 (i5 mem) G w) (hM : aF G w K) (hc : rE true (i5 mem) [.lit v] K = some ([.lit v], mr)) : ∃ G', Oe G0 w0 mem (.lit v, mr) G' w v := by
 obtain ⟨f', G1, G2, hr, hm, V, hp1, U, W, O, H, M, I⟩ := vC hM hc
 refine ⟨G2, .lit v Z, hI.ev, hm.trans hI.mine, fun β B o h => by rw [V]; exact hI.prot β B o h, fun β B o h => hI.new β B o (by rw [V] at h; exact h), U, (fun j y h => M j y (by simpa [i5] using h)), fun j x hx => ?_, fun j Y => ?_⟩
 ·have J : (i5 mem)[j]? = some (some x.row.isCells) := by simp [i5, hx]
  obtain ⟨y, hy, N, hk⟩ := H j _ J
  exact ⟨y, hy, N, fun L hL => hk L (hI.keep j _ J L hL)⟩
 ·exact I j (by simp [i5, Y])
theorem M9 {G : Gh} {w : World} {β : Bool} {k : IntKind} {t : List Int} {cv : Value} (h : VR G w (.imm β (.ints k t)) cv) :
  (∃ a, cv = .slice a 0 0 ∧ t = []) ∨ ∃ b H cap, cv = .slice (some ⟨b, H, none⟩) t.length cap ∧ ∀ (j : Nat) (x : Int), t[j]? = some x → cl w b (H + j) = some (.int k x) ∧ G.prot β b (H + j) := by
 cases h with
 | imm _ _ _ h hs =>
  cases h with
  | intsNil _ a => exact .inl ⟨a, rfl, rfl⟩
  | ints _ _ B o cap I h => exact .inr ⟨B, o, cap, rfl, h⟩
theorem Gt {G : Gh} {w : World} {b : Nat} {cv : Value} (h : VR G w (.ptr b 0 0 0) cv) : ∃ L B, G.loc b 0 = some L ∧ L.blk = some B ∧ cv = .pointer (some ⟨B, 0, none⟩) := by
 cases h with
 | ptr _ _ _ _ L B H I => exact ⟨L, B, H, I, by simp⟩
theorem MK {G : Gh} {w : World} {f : Fn} {b : Nat} {cv : Value} (h : VR G w (.fn f [] [.ptr b 0 0 0]) cv) : ∃ L B, G.loc b 0 = some L ∧ L.blk = some B ∧ cv = .func f #[] #[.pointer (some ⟨B, 0, none⟩)] := by
 cases h with
 | fn _ _ _ fv cv J I hf N =>
  obtain rfl := Array.eq_empty_of_size_eq_zero J.symm
  obtain ⟨l⟩ := cv
  match l, I with
  | [u], I =>
   obtain ⟨L, B, M, K, H⟩ := Gt (N 0 _ rfl)
   have H : u = .pointer (some ⟨B, 0, none⟩) := H
   exact ⟨L, B, M, K, by rw [H]⟩
theorem IT {G : Gh} {w : World} {mem : aH} (hM : aF G w mem) {b : Nat} {x : a9} {L : z4} {B : Nat} {v : AV} (V : mem[b]? = some (some x)) (hL : G.loc b x.gen = some L) (hB : L.blk = some B) (H : x.row = .cells 1 [v]) :
  B < w.heap.size ∧ fS w B ∧ (x.frz = false → ∀ β o, ¬ G.prot β B o) ∧ ∃ cv, cl w B 0 = some cv ∧ VR G w v cv := by
 obtain ⟨o, J, hm⟩ := (hM.box b x V).loc
 obtain rfl := ya (hL.symm.trans J)
 obtain rfl : o = some B := hB
 obtain ⟨h1, K, M, I, U⟩ := hm
 rw [H] at I
 obtain ⟨cv, O, _, N⟩ := I.2 0 v rfl
 exact ⟨K, M, U, cv, O, N⟩
theorem Nr : ∀ l : List Value, l.length = 22 → ∃ t0 t1 t2 t3 t4 t5 t6 t7 t8 t9 K Z J W I Y M U N O V H, l = [t0, t1, t2, t3, t4, t5, t6, t7, t8, t9, K, Z, J, W, I, Y, M, U, N, O, V, H] := by
 intro l h
 have hh : ∀ i (hi : i < 22), ∃ x, l[i]? = some x := fun i hi => ⟨l[i]'(by omega), yf _⟩
 iterate 22 (rcases l with _ | ⟨_, l⟩; · simp at h)
 rcases l with _ | ⟨_, l⟩
 ·exact ⟨_, _, _, _, _, _, _, _, _, _, _, _, _, _, _, _, _, _, _, _, _, _, rfl⟩
 ·simp at h
end Go.Ab
