import Derived.Test.YtdlbbdbbpoggfaaGreatDoorLib25
set_option linter.unusedVariables false
set_option linter.unusedSectionVars false
set_option linter.unusedSimpArgs false
namespace Go.Ab
variable [cD]
variable {P : Program} {R : Type} {r : R} {tab : TypeId → Option TI} {mem : aR}
theorem Ct (ht : cF P tab) {env : Nat → KV} {tmps : List AV} (H : gR env tmps) : ∀ {rs : List ResultVar} {k : List KV → Option R}, Kl (bI R) tab env mem rs k = some r →
  ∃ vs, k vs = some r ∧ B7 P tmps (aF mem) rs = some (KV.downs vs)
 | [], k, h => ⟨[], h, rfl⟩
 | .tmp t :: rs, k, h => by
  simp only [Kl] at h
  obtain ⟨v, z, h, _⟩ := bC H h
  obtain ⟨vs, h, A⟩ := Ct ht H h
  refine ⟨v :: vs, h, ?_⟩
  have z : BY tmps t = some v.down := z
  simp only [B7, z, A, ya, yo, KV.downs]
 | .cell a t :: rs, k, h => by
  simp only [Kl] at h
  obtain ⟨v, z, h, _⟩ := bC H h
  obtain ⟨o, h, J⟩ := Ft ht h
  obtain ⟨vs, h, A⟩ := Ct ht H h
  refine ⟨o.v :: vs, h, ?_⟩
  have z : BY tmps a = some v.down := z
  simp only [B7, z, J, A, ya, yo, KV.downs, bY.down]
theorem Fd (vs : List KV) : q5 (KV.downs vs) = (sE vs).down := by
 match vs with
 | [] => rfl
 | [v] => rfl
 | v :: w :: r => rfl
theorem HO (ht : cF P tab) {fn : Func} {old : List (Option Bool)} {e : Jd} {st : Ah} {tmps : List AV} (N : gR st.env tmps) {k : KV → aR → Option R} (h : P9 (bI R) tab fn old e st k = some r) :
  ∃ v m, k v m = some r ∧ CV P fn old e.down ⟨tmps, aF st.mem⟩ = some (v.down, aF m) := by
 have J : (Kl (bI R) tab st.env st.mem fn.results.toList fun vs => Aw old [sE vs] st.mem fun K mem' => (match K with | [v] => k v mem' | _ => none)) = some r ∧ ∀ id, e ≠ .exit id := by
  cases e with
  | exit id => cases h
  | normal => exact ⟨h, fun _ h => by cases h⟩
  | ret => exact ⟨h, fun _ h => by cases h⟩
 obtain ⟨J, A⟩ := J
 obtain ⟨vs, h1, h2⟩ := Ct ht N J
 obtain ⟨K, mem', M, H⟩ := Ea h1
 split at M <;> try contradiction
 rename_i v
 refine ⟨v, mem', M, ?_⟩
 have z : ((B7 P tmps (aF st.mem) fn.results.toList).bind fun vs => (rQ old [q5 vs] (aF st.mem)).bind fun q =>
   match q.1 with
   | [v] => some (v, q.2)
   | _ => none) = some (v.down, aF mem') := by
  have H : rQ old [(sE vs).down] (aF st.mem) = some ([v.down], aF mem') := H
  rw [h2, ya, Fd, H]
  rfl
 cases e with
 | exit id => exact (A id rfl).elim
 | normal => exact z
 | ret => exact z
theorem NN {C : bZ} (hC : iU P C) {an : mQ} (hD : Cj P C an) {n : Nat} {f : FuncId} {fn : Func} {args : List AV} {mem : a9} {G : Gh} {w : World} {H : Array Value} (hf : P.funcs[f]? = some fn) {c : Code} (hb : fn.body = some c)
  {R1 : Type} {r1 : R1} {k1 : Ex → St → Option R1} {good : AV × a9 → Prop} (hk1 : ∀ e st, k1 e st = some r1 → ∃ q, CV P fn (rT mem) e st = some q ∧ good q)
  (h : eG P C an n (rT mem) c 0 { tmps := args ++ List.replicate (fn.ntmps - args.length) (.lit undef), mem } k1 = some r1) (hM : aT G w mem) (hg0 : ∀ (j : Nat) (x : d8), mem[j]? = some (some x) → x.gen = 0) (hv : pX G w args H) :
  Calls P f H w fun e J => ∃ q, good q ∧ ∃ G' cv, e = .returned cv ∧ Pa G w mem q G' J cv := by
  refine calls_of_wp hf hb (Ik hC hD c h (G := G) ⟨hM, ?_, fun j x hx => ?_, rfl⟩ (Gw.refl G w _) fun e V G' J a' z hS hI => ?_)
  ·simp [hv.1]
  ·right
   by_cases hj : j < args.length
   ·rw [yq hj] at hx
    have := hv.2 j x hx
    rw [ym, yz2 (by rw [← hv.1]; exact hj), ← ym]; exact this
   ·rw [yt (by omega), yk2] at hx
    split at hx
    ·rename_i hlt
     obtain rfl := yb hx
     rw [ym, Array.getElem?_append_right (by rw [← hv.1]; omega), yj3, if_pos (by rw [← hv.1]; exact hlt)]
     exact .lit _ rfl
    ·simp at hx
  ·obtain ⟨r, z, O⟩ := hk1 _ _ z
   unfold CV at z
   have key : (B7 P V.tmps V.mem fn.results.toList).bind (fun vs => (rQ (rT mem) [q5 vs] V.mem).bind fun q => match q.1 with
      | [v] => some (v, q.2)
      | _ => none) = some r ∧ ((∃ id, e = .exit id) → False) := by
    cases e with
    | exit id => simp at z
    | normal => exact ⟨z, by rintro ⟨_, h⟩; cases h⟩
    | ret => exact ⟨z, by rintro ⟨_, h⟩; cases h⟩
   obtain ⟨z, hne⟩ := key
   rw [bind_some] at z; obtain ⟨vs, hvs, z⟩ := z
   rw [bind_some] at z; obtain ⟨q, hq, z⟩ := z
   obtain ⟨us, hL, Y⟩ := wS hS hvs
   obtain ⟨f', G2, hr, hm, hp, hM2, Z, hk, U, K, M⟩ := Bi hS.memr hq
   rw [hr] at z
   simp only [AV.renAll] at z
   obtain rfl := yb z
   have hone : ∃ cv, (results fn a'.tmps).run P J = .ok cv J ∧ VR G' J (q5 vs) cv := by
    have hmap : (fn.results.mapM (M4 a'.tmps)).run P J = .ok us.toArray J := by
     rw [Array.mapM_eq_mapM_toList, Sem.run_map, Y]; rfl
    rw [JZ]
    simp only [Sem.run_bind, hmap, Result.andThen_ok, Sem.run_pure]
    match vs, us, hL with
    | [v], [u], hL => exact ⟨u, by simp, hL.2 0 v rfl⟩
    | [], us, hL =>
     have := yp hL.1.symm
     subst this
     exact ⟨.tuple #[], by simp, .tup [] #[] rfl (fun j y W => by simp at W)⟩
    | v :: v' :: vs, us, hL =>
     refine ⟨.tuple us.toArray, ?_, .tup _ _ (by simpa using hL.1) (fun j y W => by rw [← dQ]; exact hL.2 j y W)⟩
     have : us.toArray.size ≠ 1 := by have := hL.1; simp at this ⊢; omega
     rw [dif_neg this]
    | [v], [], hL => have := hL.1; simp at this
    | [v], _ :: _ :: _, hL => have := hL.1; simp at this
   obtain ⟨cv, hres, hvr⟩ := hone
   have N : ∃ v, (results fn a'.tmps).run P J = .ok v J ∧ ∃ q', good q' ∧ ∃ G' cv, Ending.returned v = .returned cv ∧ Pa G w mem q' G' J cv := by
    refine ⟨cv, hres, _, O, G2, cv, rfl, ?_⟩
    refine ⟨hvr.ren (l := true) Z (fun β B o _ hb => by rw [hp]; exact hb) (fun _ => rfl), hI.ev, hm.trans hI.mine, fun β B o h => by rw [hp]; exact hI.prot β B o h, fun β B o h => hI.new β B o (by rw [hp] at h; exact h), hM2, U, fun j x hx => ?_, fun j hj => ?_⟩
    ·have A : (rT mem)[j]? = some (some x.row.isCells) := by simp [rT, hx]
     obtain ⟨y, W, hyk⟩ := K j _ A
     refine ⟨y, W, hyk, fun hc L hL => ?_⟩
     rw [hc] at A
     exact hk j A L (hI.keep j A L hL)
    ·exact M j (by simp [rT, hj])
   cases e with
   | exit id => exact (hne ⟨id, rfl⟩).elim
   | normal => exact ⟨hS.defers, N⟩
   | ret => exact ⟨hS.defers, N⟩
def Fh (E : aG) (b : eP E.r) (q : AV × a9) : Prop := q.2 = (yL E b).2 ∧ ∀ G w cv, (∀ B o, Gh.prot G false B o → G.prot true B o) → VR G w q.1 cv → VR G w (yL E b).1 cv
theorem L0 {l : List Nat} (h : C0 l = true) : l = [0] := by
 unfold C0 at h
 split at h
 ·rfl
 ·cases h
theorem K5 {s : kX} (h1 : s.sh.okL = true) (h2 : C0 s.slots = true) {v : KV} {m : aR} {d : s.den} (h : nD true s ⟨dP [0] [v], m⟩ = some d) :
  (q9 s d).mem = m ∧ ∀ G w cv, (∀ B o, Gh.prot G false B o → G.prot true B o) → VR G w v.down cv → VR G w ((q9 s d).env 0).down cv := by
 have M := L0 h2
 unfold nD at h
 split at h <;> try contradiction
 rename_i x hx
 split at h <;> try contradiction
 rename_i y O
 have K := yb h
 have V := P2.fst_mk' K
 have U := P2.snd_mk' K
 rw [M] at hx
 have hx : eM true s.sh [v] = some x := hx
 have H := nF hx
 refine ⟨((w8 O).trans (congrArg (fV s.msh) U.symm)).symm, fun G w cv hl N => ?_⟩
 have A := mL.all (w := w) hl h1 H
 have J : (q9 s d).env 0 = dP [0] (eY s.sh x) 0 := by
  show dP s.slots (eY s.sh (P2.fst s.sh.dflt s.sh.un s.msh.un d)) 0 = _
  rw [M]
  exact congrArg (fun u => dP [0] (eY s.sh u) 0) V
 rw [J]
 have z := A.len
 rw [aQ] at z
 generalize eY s.sh x = l at A z
 match l, z, A with
 | [u], _, A => exact A.1 cv N
theorem D6 {v : KV} {m : aR} : ∀ {l : List kX} {b : eP l}, (l.all fun s => s.sh.okL && C0 s.slots) = true → z4 true l .ret ⟨dP [0] [v], m⟩ = some b →
  (s6 l b).2.mem = m ∧ ∀ G w cv, (∀ B o, Gh.prot G false B o → G.prot true B o) → VR G w v.down cv → VR G w ((s6 l b).2.env 0).down cv
 | [], b, z, h => by cases h
 | [a], b, z, h => by
  rw [ye3, yc, yc] at z
  have A : (bif C8 a.ex .ret then nD true a ⟨dP [0] [v], m⟩ else none) = some b := h
  obtain ⟨h1, h2⟩ := c9.1 A
  exact K5 z.1.1 z.1.2 h2
 | a :: H :: l, b, z, h => by
  rw [ye3, yc, yc] at z
  have A : (match (bif C8 a.ex .ret then nD true a ⟨dP [0] [v], m⟩ else none) with
   | some x => some (Sum.inl x)
   | none => (match z4 true (H :: l) .ret ⟨dP [0] [v], m⟩ with | some y => some (Sum.inr y) | none => none)) = some b := h
  split at A
  ·rename_i x hx
   obtain ⟨h1, h2⟩ := c9.1 hx
   have := yb A
   subst this
   exact K5 z.1.1 z.1.2 h2
  ·split at A <;> try contradiction
   rename_i y J
   have := yb A
   subst this
   exact D6 (l := H :: l) z.2 J
theorem sZ : ∀ {s : Sh} {d : s.den} {v : KV}, v ∈ eY s d → v ≠ .gone
 | .int _, d, v, h | .bool, d, v, h | .str, d, v, h | .nilS, d, v, h | .nilP, d, v, h | .undef, d, v, h | .sl _ _ _, d, v, h | .el _ _ _ _, d, v, h | .ptr _ _ _ _, d, v, h
 | .ptrI _ _ _, d, v, h | .ms _ _, d, v, h | .msw _ _, d, v, h | .fn _ _ _, d, v, h | .agg _, d, v, h | .tup _, d, v, h => by
  rw [ym1.1 h]
  intro h; cases h
 | .nil, d, v, h | .bnone, d, v, h | .bts _ _ _ _ _, d, v, h | .bcells _ _ _ _, d, v, h => by cases h
 | .cons a b, d, v, h => by
  have h : v ∈ eY a (P2.fst a.dflt a.un b.un d) ++ eY b (P2.snd b.dflt a.un b.un d) := h
  exact (yb2.1 h).elim (fun h => sZ h) (fun h => sZ h)
theorem FZ {args : List KV} {n : Nat} (A : ∀ v ∈ args, v ≠ .gone) : gR (Hp args n) (KV.downs args ++ List.replicate (n - args.length) (.lit undef)) := by
 intro t
 unfold Hp
 rw [bU]
 cases hx : args[t]? with
 | some v =>
  right
  simp only
  refine ⟨?_, ?_⟩
  ·have ht : t < args.length := by
    rcases yz1 t args.length with h | h
    ·exact h
    ·rw [ya1 h] at hx; cases hx
   rw [bU, yq (by rw [aQ]; exact ht), dC, yh1, hx]; rfl
  ·cases H : fY v.down with
   | false => rfl
   | true => exact absurd (rH.1 H) (A v (yj hx))
 | none =>
  simp only
  have ht : args.length ≤ t := by
   rcases yz1 t args.length with h | h
   ·rw [yd h] at hx; cases hx
   ·exact h
  cases z : Nat.blt t n with
  | false => left; rfl
  | true =>
   rw [Nat.blt_eq] at z
   right
   refine ⟨?_, rfl⟩
   simp only [yg]
   rw [bU, yt (by rw [aQ]; exact ht), yk2, aQ, if_pos (by omega)]
   rfl
def NR (fn : Func) (c : Code) (E : aG) : Bool := K3 E && kW fn.ntmps c && Nat.ble E.a.slots.length fn.ntmps
open Classical in
theorem GD (hn : nE P = true) (hm : P.follows .mixedOrders = true) (ht : cF P tab) {J : FuncId → List aG} (hto : ∀ g, (J g).all K3 = true) (htb : ∀ g, ∀ E ∈ J g, sH P g E)
  {f : FuncId} {fn : Func} (hf : P.funcs[f]? = some fn) {c : Code} (hb : fn.body = some c) {E : aG} (ho : NR fn c E = true) {an : mQ} {H : Nat → Option aK} {old : List (Option Bool)} {n : Nat}
  (K : ∀ d, eX (fV E.a.msh d) = old) (hl : sX tab J H an old n c 0) (W : ∀ a, OH (bI (eP E.r)) tab J H an fn E.a E.r a some = E.sh a) : sH P f E := by
 intro a b hab G w as m vargs hle hM hg0 hv
 refine ⟨zM hf hn (by rw [hb]; rfl), ?_⟩
 simp only [NR, yc] at ho
 have U := ho.1.1
 simp only [K3, yc] at U
 obtain ⟨V, hls, rfl⟩ := hle
 have hC := E0 htb
 have M := mL.all (w := w) hM.lab U.1.1.1 hls
 have hv' := M.vrs hv
 have Y := (W a).trans hab
 unfold OH Od at Y
 rw [hb] at Y
 simp only at Y
 rw [K] at Y
 let k1 : Ex → St → Option Unit := fun e st => if ∃ q, CV P fn old e st = some q ∧ Fh E b q then some () else none
 have hlenA : (eY E.a.sh (P2.fst E.a.sh.dflt E.a.sh.un E.a.msh.un a)).length ≤ fn.ntmps := by
  rw [← aQ, ← M.len, V]; exact nl.1 ho.2
 have O := Fs ht (K9 hto) (n := n) (m := fn.ntmps) c ho.1.2 (R1 := Unit) (r1 := ()) (k1 := k1) hl (FZ (n := fn.ntmps) fun v hv => sZ hv)
  (by rw [yi, yg3, aQ]; omega) Y (fun e st' tmps' h1 h2 h3 => ?_)
 ·have A : rT (aF (fV E.a.msh (P2.snd E.a.msh.dflt E.a.sh.un E.a.msh.un a))) = old := (o8 _).trans (K _)
  have := NN hC (KS hm hC an) (n := n) hf hb (args := KV.downs (eY E.a.sh (P2.fst E.a.sh.dflt E.a.sh.un E.a.msh.un a))) (k1 := k1) (r1 := ()) (good := Fh E b) (fun e st h => by
   rw [A]
   show ∃ q, CV P fn old e st = some q ∧ Fh E b q
   by_cases hq : ∃ q, CV P fn old e st = some q ∧ Fh E b q
   ·exact hq
   ·have h : (if ∃ q, CV P fn old e st = some q ∧ Fh E b q then some () else none) = some () := h
    rw [if_neg hq] at h; cases h) (by rw [A, aQ]; exact O) hM hg0 hv'
  refine this.mono fun e w' hq => ?_
  obtain ⟨q, hg, G', cv, he, z⟩ := hq
  obtain ⟨qv, qm⟩ := q
  obtain ⟨N, hg2⟩ := hg
  have N : qm = (yL E b).2 := N
  subst N
  exact ⟨G', cv, he, hg2 G' w' cv z.memR.lab z.v, z.ev, z.mine, z.prot, z.new, z.memR, z.gens, z.kept, z.nones⟩
 ·obtain ⟨v, mm, h4, h5⟩ := HO ht h2 h1
  have Z : z4 true E.r .ret ⟨dP [0] [v], mm⟩ = some b := by
   split at h4
   ·rename_i b' hb'
    rw [hb', yb h4]
   ·cases h4
  obtain ⟨g1, g2⟩ := D6 U.2 Z
  refine if_pos ⟨_, h5, ?_, ?_⟩
  ·exact congrArg aF g1.symm
  ·exact g2
end Go.Ab
