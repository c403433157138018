import Derived.Test.YtdlbbdbbpoggfaaGreatDoorLib25
set_option linter.unusedVariables false
set_option linter.unusedSectionVars false
set_option linter.unusedSimpArgs false
namespace Go.Ab
variable [cD]
variable {P : Program} {R : Type} {r : R} {tab : TypeId → Option TI} {mem : aR}
theorem CH (ht : cF P tab) {env : Nat → KV} {tmps : List AV} (H : gQ env tmps) : ∀ {rs : List ResultVar} {k : List KV → Option R}, Ke (bI R) tab env mem rs k = some r →
  ∃ vs, k vs = some r ∧ BX P tmps (aF mem) rs = some (KV.downs vs)
 | [], k, h => ⟨[], h, rfl⟩
 | .tmp t :: rs, k, h => by
  simp only [Ke] at h
  obtain ⟨v, z, h, _⟩ := bC H h
  obtain ⟨vs, h, A⟩ := CH ht H h
  refine ⟨v :: vs, h, ?_⟩
  have z : B9 tmps t = some v.down := z
  simp only [BX, z, A, ya, yo, KV.downs]
 | .cell a t :: rs, k, h => by
  simp only [Ke] at h
  obtain ⟨v, z, h, _⟩ := bC H h
  obtain ⟨o, h, J⟩ := FT ht h
  obtain ⟨vs, h, A⟩ := CH ht H h
  refine ⟨o.v :: vs, h, ?_⟩
  have z : B9 tmps a = some v.down := z
  simp only [BX, z, J, A, ya, yo, KV.downs, bY.down]
theorem Fb (vs : List KV) : qP (KV.downs vs) = (sV vs).down := by
 match vs with
 | [] => rfl
 | [v] => rfl
 | v :: w :: r => rfl
theorem H2 (ht : cF P tab) {fn : Func} {old : List (Option Bool)} {e : Je} {st : Ah} {tmps : List AV} (N : gQ st.env tmps) {k : KV → aR → Option R} (h : Qc (bI R) tab fn old e st k = some r) :
  ∃ v m, k v m = some r ∧ Ew P fn old e.down ⟨tmps, aF st.mem⟩ = some (v.down, aF m) := by
 have A : (Ke (bI R) tab st.env st.mem fn.results.toList fun vs => Az old [sV vs] st.mem fun K mem' => (match K with | [v] => k v mem' | _ => none)) = some r ∧ ∀ id, e ≠ .exit id := by
  cases e with
  | exit id => cases h
  | normal => exact ⟨h, fun _ h => by cases h⟩
  | ret => exact ⟨h, fun _ h => by cases h⟩
 obtain ⟨A, H⟩ := A
 obtain ⟨vs, h1, h2⟩ := CH ht N A
 obtain ⟨K, mem', M, J⟩ := CZ h1
 split at M <;> try contradiction
 rename_i v
 refine ⟨v, mem', M, ?_⟩
 have z : ((BX P tmps (aF st.mem) fn.results.toList).bind fun vs => (rQ old [qP vs] (aF st.mem)).bind fun q =>
   match q.1 with
   | [v] => some (v, q.2)
   | _ => none) = some (v.down, aF mem') := by
  have J : rQ old [(sV vs).down] (aF st.mem) = some ([v.down], aF mem') := J
  rw [h2, ya, Fb, J]
  rfl
 cases e with
 | exit id => exact (H id rfl).elim
 | normal => exact z
 | ret => exact z
theorem NK {C : bZ} (hC : jC P C) {an : mR} (hD : Cm P C an) {n : Nat} {f : FuncId} {fn : Func} {args : List AV} {mem : a9} {G : Gh} {w : World} {H : Array Value} (hf : P.funcs[f]? = some fn) {c : Code} (hb : fn.body = some c)
  {R1 : Type} {r1 : R1} {k1 : Ex → St → Option R1} {good : AV × a9 → Prop} (hk1 : ∀ e st, k1 e st = some r1 → ∃ q, Ew P fn (rG mem) e st = some q ∧ good q)
  (h : eG P C an n (rG mem) c 0 { tmps := args ++ List.replicate (fn.ntmps - args.length) (.lit undef), mem } k1 = some r1) (hM : aT G w mem) (hg0 : ∀ (j : Nat) (x : d8), mem[j]? = some (some x) → x.gen = 0) (Y : o6 G w args H) :
  Calls P f H w fun e J => ∃ q, good q ∧ ∃ G' cv, e = .returned cv ∧ Pb G w mem q G' J cv := by
  refine calls_of_wp hf hb (IF hC hD c h (G := G) ⟨hM, ?_, fun j x hx => ?_, rfl⟩ (GN.refl G w _) fun e V G' J a' z hS hI => ?_)
  ·simp [Y.1]
  ·right
   by_cases hj : j < args.length
   ·rw [yq hj] at hx
    have := Y.2 j x hx
    rw [ym, ya3 (by rw [← Y.1]; exact hj), ← ym]; exact this
   ·rw [yt (by omega), yk2] at hx
    split at hx
    ·rename_i hlt
     obtain rfl := yb hx
     rw [ym, Array.getElem?_append_right (by rw [← Y.1]; omega), yj3, if_pos (by rw [← Y.1]; exact hlt)]
     exact .lit _ rfl
    ·simp at hx
  ·obtain ⟨r, z, O⟩ := hk1 _ _ z
   unfold Ew at z
   have key : (BX P V.tmps V.mem fn.results.toList).bind (fun vs => (rQ (rG mem) [qP vs] V.mem).bind fun q => match q.1 with
      | [v] => some (v, q.2)
      | _ => none) = some r ∧ ((∃ id, e = .exit id) → False) := by
    cases e with
    | exit id => simp at z
    | normal => exact ⟨z, by rintro ⟨_, h⟩; cases h⟩
    | ret => exact ⟨z, by rintro ⟨_, h⟩; cases h⟩
   obtain ⟨z, hne⟩ := key
   rw [bind_some] at z; obtain ⟨vs, hvs, z⟩ := z
   rw [bind_some] at z; obtain ⟨q, hq, z⟩ := z
   obtain ⟨us, hL, hrun⟩ := wU hS hvs
   obtain ⟨f', G2, hr, hm, hp, hM2, Z, hk, U, M, K⟩ := Bg hS.memr hq
   rw [hr] at z
   simp only [AV.renAll] at z
   obtain rfl := yb z
   have W : ∃ cv, (results fn a'.tmps).run P J = .ok cv J ∧ VR G' J (qP vs) cv := by
    have hmap : (fn.results.mapM (NB a'.tmps)).run P J = .ok us.toArray J := by
     rw [Array.mapM_eq_mapM_toList, Sem.run_map, hrun]; rfl
    rw [Kp]
    simp only [Sem.run_bind, hmap, Result.andThen_ok, Sem.run_pure]
    match vs, us, hL with
    | [v], [u], hL => exact ⟨u, by simp, hL.2 0 v rfl⟩
    | [], us, hL =>
     have := yp hL.1.symm
     subst this
     exact ⟨.tuple #[], by simp, .tup [] #[] rfl (fun j y hy => by simp at hy)⟩
    | v :: v' :: vs, us, hL =>
     refine ⟨.tuple us.toArray, ?_, .tup _ _ (by simpa using hL.1) (fun j y hy => by rw [← dR]; exact hL.2 j y hy)⟩
     have : us.toArray.size ≠ 1 := by have := hL.1; simp at this ⊢; omega
     rw [dif_neg this]
    | [v], [], hL => have := hL.1; simp at this
    | [v], _ :: _ :: _, hL => have := hL.1; simp at this
   obtain ⟨cv, hres, hvr⟩ := W
   have N : ∃ v, (results fn a'.tmps).run P J = .ok v J ∧ ∃ q', good q' ∧ ∃ G' cv, Ending.returned v = .returned cv ∧ Pb G w mem q' G' J cv := by
    refine ⟨cv, hres, _, O, G2, cv, rfl, ?_⟩
    refine ⟨hvr.ren (l := true) Z (fun β B o _ hb => by rw [hp]; exact hb) (fun _ => rfl), hI.ev, hm.trans hI.mine, fun β B o h => by rw [hp]; exact hI.prot β B o h, fun β B o h => hI.new β B o (by rw [hp] at h; exact h), hM2, U, fun j x hx => ?_, fun j hj => ?_⟩
    ·have A : (rG mem)[j]? = some (some x.row.isCells) := by simp [rG, hx]
     obtain ⟨y, hy, hyk⟩ := M j _ A
     refine ⟨y, hy, hyk, fun hc L hL => ?_⟩
     rw [hc] at A
     exact hk j A L (hI.keep j A L hL)
    ·exact K j (by simp [rG, hj])
   cases e with
   | exit id => exact (hne ⟨id, rfl⟩).elim
   | normal => exact ⟨hS.defers, N⟩
   | ret => exact ⟨hS.defers, N⟩
def Fe (E : aG) (b : eP E.r) (q : AV × a9) : Prop := q.2 = (Ad E b).2 ∧ ∀ G w cv, (∀ B o, Gh.prot G false B o → G.prot true B o) → VR G w q.1 cv → VR G w (Ad E b).1 cv
theorem LG {l : List Nat} (h : D3 l = true) : l = [0] := by
 unfold D3 at h
 split at h
 ·rfl
 ·cases h
theorem K8 {s : kS} (h1 : s.sh.okL = true) (h2 : D3 s.slots = true) {v : KV} {m : aR} {d : s.den} (h : m7 true s ⟨dP [0] [v], m⟩ = some d) :
  (rI s d).mem = m ∧ ∀ G w cv, (∀ B o, Gh.prot G false B o → G.prot true B o) → VR G w v.down cv → VR G w ((rI s d).env 0).down cv := by
 have M := LG h2
 unfold m7 at h
 split at h <;> try contradiction
 rename_i x hx
 split at h <;> try contradiction
 rename_i y U
 have K := yb h
 have V := P2.fst_mk' K
 have O := P2.snd_mk' K
 rw [M] at hx
 have hx : eJ true s.sh [v] = some x := hx
 have H := m9 hx
 refine ⟨((zW U).trans (congrArg (fV s.msh) O.symm)).symm, fun G w cv hl N => ?_⟩
 have A := l9.all (w := w) hl h1 H
 have J : (rI s d).env 0 = dP [0] (eX s.sh x) 0 := by
  show dP s.slots (eX s.sh (P2.fst s.sh.dflt s.sh.un s.msh.un d)) 0 = _
  rw [M]
  exact congrArg (fun u => dP [0] (eX s.sh u) 0) V
 rw [J]
 have z := A.len
 rw [aP] at z
 generalize eX s.sh x = l at A z
 match l, z, A with
 | [u], _, A => exact A.1 cv N
theorem Ef {v : KV} {m : aR} : ∀ {l : List kS} {b : eP l}, (l.all fun s => s.sh.okL && D3 s.slots) = true → x8 true l .ret ⟨dP [0] [v], m⟩ = some b →
  (s9 l b).2.mem = m ∧ ∀ G w cv, (∀ B o, Gh.prot G false B o → G.prot true B o) → VR G w v.down cv → VR G w ((s9 l b).2.env 0).down cv
 | [], b, z, h => by cases h
 | [a], b, z, h => by
  rw [ye3, yc, yc] at z
  have A : (bif E1 a.ex .ret then m7 true a ⟨dP [0] [v], m⟩ else none) = some b := h
  obtain ⟨h1, h2⟩ := c9.1 A
  exact K8 z.1.1 z.1.2 h2
 | a :: H :: l, b, z, h => by
  rw [ye3, yc, yc] at z
  have A : (match (bif E1 a.ex .ret then m7 true a ⟨dP [0] [v], m⟩ else none) with
   | some x => some (Sum.inl x)
   | none => (match x8 true (H :: l) .ret ⟨dP [0] [v], m⟩ with | some y => some (Sum.inr y) | none => none)) = some b := h
  split at A
  ·rename_i x hx
   obtain ⟨h1, h2⟩ := c9.1 hx
   have := yb A
   subst this
   exact K8 z.1.1 z.1.2 h2
  ·split at A <;> try contradiction
   rename_i y J
   have := yb A
   subst this
   exact Ef (l := H :: l) z.2 J
theorem r9 : ∀ {s : Sh} {d : s.den} {v : KV}, v ∈ eX s d → v ≠ .gone
 | .int _, d, v, h | .bool, d, v, h | .str, d, v, h | .nilS, d, v, h | .nilP, d, v, h | .undef, d, v, h | .sl _ _ _, d, v, h | .el _ _ _ _, d, v, h | .ptr _ _ _ _, d, v, h
 | .ptrI _ _ _, d, v, h | .ms _ _, d, v, h | .msw _ _, d, v, h | .fn _ _ _, d, v, h | .agg _, d, v, h | .tup _, d, v, h => by
  rw [ym1.1 h]
  intro h; cases h
 | .nil, d, v, h | .bnone, d, v, h | .bts _ _ _ _ _, d, v, h | .bcells _ _ _ _, d, v, h => by cases h
 | .cons a b, d, v, h => by
  have h : v ∈ eX a (P2.fst a.dflt a.un b.un d) ++ eX b (P2.snd b.dflt a.un b.un d) := h
  exact (yy1.1 h).elim (fun h => r9 h) (fun h => r9 h)
theorem Gc {args : List KV} {n : Nat} (H : ∀ v ∈ args, v ≠ .gone) : gQ (Hk args n) (KV.downs args ++ List.replicate (n - args.length) (.lit undef)) := by
 intro t
 unfold Hk
 rw [bU]
 cases hx : args[t]? with
 | some v =>
  right
  simp only
  refine ⟨?_, ?_⟩
  ·have ht : t < args.length := by
    rcases ya2 t args.length with h | h
    ·exact h
    ·rw [ya1 h] at hx; cases hx
   rw [bU, yq (by rw [aP]; exact ht), dE, yh1, hx]; rfl
  ·cases A : fW v.down with
   | false => rfl
   | true => exact absurd (rA.1 A) (H v (yj hx))
 | none =>
  simp only
  have ht : args.length ≤ t := by
   rcases ya2 t args.length with h | h
   ·rw [yd h] at hx; cases hx
   ·exact h
  cases z : Nat.blt t n with
  | false => left; rfl
  | true =>
   rw [Nat.blt_eq] at z
   right
   refine ⟨?_, rfl⟩
   simp only [yg]
   rw [bU, yt (by rw [aP]; exact ht), yk2, aP, if_pos (by omega)]
   rfl
def NT (fn : Func) (c : Code) (E : aG) : Bool := KZ E && kX fn.ntmps c && Nat.ble E.a.slots.length fn.ntmps
open Classical in
theorem GO (hn : nI P = true) (hm : P.follows .mixedOrders = true) (ht : cF P tab) {J : FuncId → List aG} (hto : ∀ g, (J g).all KZ = true) (htb : ∀ g, ∀ E ∈ J g, sY P g E)
  {f : FuncId} {fn : Func} (hf : P.funcs[f]? = some fn) {c : Code} (hb : fn.body = some c) {E : aG} (ho : NT fn c E = true) {an : mR} {H : Nat → Option aL} {old : List (Option Bool)} {n : Nat}
  (K : ∀ d, e9 (fV E.a.msh d) = old) (hl : sH tab J H an old n c 0) (Z : ∀ a, Oa (bI (eP E.r)) tab J H an fn E.a E.r a some = E.sh a) : sY P f E := by
 intro a b hab G w as m vargs hle hM hg0 hv
 refine ⟨zM hf hn (by rw [hb]; rfl), ?_⟩
 simp only [NT, yc] at ho
 have U := ho.1.1
 simp only [KZ, yc] at U
 obtain ⟨W, hls, rfl⟩ := hle
 have hC := Dr htb
 have M := l9.all (w := w) hM.lab U.1.1.1 hls
 have hv' := M.vrs hv
 have V := (Z a).trans hab
 unfold Oa OY at V
 rw [hb] at V
 simp only at V
 rw [K] at V
 let k1 : Ex → St → Option Unit := fun e st => if ∃ q, Ew P fn old e st = some q ∧ Fe E b q then some () else none
 have hlenA : (eX E.a.sh (P2.fst E.a.sh.dflt E.a.sh.un E.a.msh.un a)).length ≤ fn.ntmps := by
  rw [← aP, ← M.len, W]; exact nl.1 ho.2
 have O := Gg ht (KI hto) (n := n) (m := fn.ntmps) c ho.1.2 (R1 := Unit) (r1 := ()) (k1 := k1) hl (Gc (n := fn.ntmps) fun v hv => r9 hv)
  (by rw [yi, yg3, aP]; omega) V (fun e st' tmps' h1 h2 h3 => ?_)
 ·have A : rG (aF (fV E.a.msh (P2.snd E.a.msh.dflt E.a.sh.un E.a.msh.un a))) = old := (pA _).trans (K _)
  have := NK hC (La hm hC an) (n := n) hf hb (args := KV.downs (eX E.a.sh (P2.fst E.a.sh.dflt E.a.sh.un E.a.msh.un a))) (k1 := k1) (r1 := ()) (good := Fe E b) (fun e st h => by
   rw [A]
   show ∃ q, Ew P fn old e st = some q ∧ Fe E b q
   by_cases hq : ∃ q, Ew P fn old e st = some q ∧ Fe E b q
   ·exact hq
   ·have h : (if ∃ q, Ew P fn old e st = some q ∧ Fe E b q then some () else none) = some () := h
    rw [if_neg hq] at h; cases h) (by rw [A, aP]; exact O) hM hg0 hv'
  refine this.mono fun e w' hq => ?_
  obtain ⟨q, hg, G', cv, he, z⟩ := hq
  obtain ⟨qv, qm⟩ := q
  obtain ⟨N, hg2⟩ := hg
  have N : qm = (Ad E b).2 := N
  subst N
  exact ⟨G', cv, he, hg2 G' w' cv z.memR.lab z.v, z.ev, z.mine, z.prot, z.new, z.memR, z.gens, z.kept, z.nones⟩
 ·obtain ⟨v, mm, h4, h5⟩ := H2 ht h2 h1
  have Y : x8 true E.r .ret ⟨dP [0] [v], mm⟩ = some b := by
   split at h4
   ·rename_i b' hb'
    rw [hb', yb h4]
   ·cases h4
  obtain ⟨g1, g2⟩ := Ef U.2 Y
  refine if_pos ⟨_, h5, ?_, ?_⟩
  ·exact congrArg aF g1.symm
  ·exact g2
end Go.Ab
