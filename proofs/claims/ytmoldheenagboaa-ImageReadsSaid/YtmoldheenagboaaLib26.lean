import Derived.Test.YtmoldheenagboaaLib25
set_option linter.unusedVariables false
set_option linter.unusedSectionVars false
set_option linter.unusedSimpArgs false
namespace Go.Ab
variable [b8]
variable {P : Program} {R : Type} {r : R} {tab : TypeId → Option TI} {mem : aO}
theorem BQ (K : b9 P tab) {env : Nat → KV} {tmps : List AV} (J : fW env tmps) : ∀ {rs : List ResultVar} {k : List KV → Option R}, HJ (aL R) tab env mem rs k = some r →
  ∃ vs, k vs = some r ∧ Ax P tmps (aB mem) rs = some (KV.downs vs)
 | [], k, h => ⟨[], h, rfl⟩
 | .tmp t :: rs, k, h => by
  simp only [HJ] at h
  obtain ⟨v, z, h, _⟩ := a5 J h
  obtain ⟨vs, h, H⟩ := BQ K J h
  refine ⟨v :: vs, h, ?_⟩
  have z : Au tmps t = some v.down := z
  simp only [Ax, z, H, yb, yn, KV.downs]
 | .cell a t :: rs, k, h => by
  simp only [HJ] at h
  obtain ⟨v, z, h, _⟩ := a5 J h
  obtain ⟨o, h, N⟩ := C8 K h
  obtain ⟨vs, h, H⟩ := BQ K J h
  refine ⟨o.v :: vs, h, ?_⟩
  have z : Au tmps a = some v.down := z
  simp only [Ax, z, N, H, yb, yn, KV.downs, bW.down]
theorem CV (vs : List KV) : pV (KV.downs vs) = (qV vs).down := by
 match vs with
 | [] => rfl
 | [v] => rfl
 | v :: w :: r => rfl
theorem Gu (W : b9 P tab) {fn : Func} {old : List (Option Bool)} {e : FP} {st : wZ} {tmps : List AV} (U : fW st.env tmps) {k : KV → aO → Option R} (h : Na (aL R) tab fn old e st k = some r) :
  ∃ v m, k v m = some r ∧ BO P fn old e.down ⟨tmps, aB st.mem⟩ = some (v.down, aB m) := by
 have K : (HJ (aL R) tab st.env st.mem fn.results.toList fun vs => yK old [qV vs] st.mem fun N mem' => (match N with | [v] => k v mem' | _ => none)) = some r ∧ ∀ id, e ≠ .exit id := by
  cases e with
  | exit id => cases h
  | normal => exact ⟨h, fun _ h => by cases h⟩
  | ret => exact ⟨h, fun _ h => by cases h⟩
 obtain ⟨K, J⟩ := K
 obtain ⟨vs, V, Y⟩ := BQ W U K
 obtain ⟨N, mem', O, H⟩ := CA V
 split at O <;> try contradiction
 rename_i v
 refine ⟨v, mem', O, ?_⟩
 have z : ((Ax P tmps (aB st.mem) fn.results.toList).bind fun vs => (oU old [pV vs] (aB st.mem)).bind fun q =>
   match q.1 with
   | [v] => some (v, q.2)
   | _ => none) = some (v.down, aB mem') := by
  have H : oU old [(qV vs).down] (aB st.mem) = some ([v.down], aB mem') := H
  rw [Y, yb, CV, H]
  rfl
 cases e with
 | exit id => exact (J id rfl).elim
 | normal => exact z
 | ret => exact z
theorem KY {C : bZ} (hC : g9 P C) {an : dJ} (hD : AN P C an) {n : Nat} {f : FuncId} {fn : Func} {args : List AV} {mem : aW} {G : Gh} {w : World} {K : Array Value} (hf : P.funcs[f]? = some fn) {c : Code} (hb : fn.body = some c)
  {R1 : Type} {r1 : R1} {k1 : Ex → St → Option R1} {good : AV × aW → Prop} (hk1 : ∀ e st, k1 e st = some r1 → ∃ q, BO P fn (iM mem) e st = some q ∧ good q)
  (h : dF P C an n (iM mem) c 0 { tmps := args ++ List.replicate (fn.ntmps - args.length) (.lit undef), mem } k1 = some r1) (hM : aQ G w mem) (hg0 : ∀ (j : Nat) (x : c7), mem[j]? = some (some x) → x.gen = 0) (hv : nE G w args K) :
  Calls P f K w fun e N => ∃ q, good q ∧ ∃ G' cv, e = .returned cv ∧ Ld G w mem q G' N cv := by
  refine calls_of_wp hf hb (lV hC hD c h (G := G) ⟨hM, ?_, fun j x V => ?_, rfl⟩ (CR.refl G w _) fun e st' G' N a' z hS hI => ?_)
  ·simp [hv.1]
  ·right
   by_cases hj : j < args.length
   ·rw [yo hj] at V
    have := hv.2 j x V
    rw [yk, yl2 (by rw [← hv.1]; exact hj), ← yk]; exact this
   ·rw [yq (by omega), yd2] at V
    split at V
    ·rename_i hlt
     obtain rfl := ya V
     rw [yk, Array.getElem?_append_right (by rw [← hv.1]; omega), yw2, if_pos (by rw [← hv.1]; exact hlt)]
     exact .lit _ rfl
    ·simp at V
  ·obtain ⟨r, z, Y⟩ := hk1 _ _ z
   unfold BO at z
   have key : (Ax P st'.tmps st'.mem fn.results.toList).bind (fun vs => (oU (iM mem) [pV vs] st'.mem).bind fun q => match q.1 with
      | [v] => some (v, q.2)
      | _ => none) = some r ∧ ((∃ id, e = .exit id) → False) := by
    cases e with
    | exit id => simp at z
    | normal => exact ⟨z, by rintro ⟨_, h⟩; cases h⟩
    | ret => exact ⟨z, by rintro ⟨_, h⟩; cases h⟩
   obtain ⟨z, hne⟩ := key
   rw [bind_some] at z; obtain ⟨vs, hvs, z⟩ := z
   rw [bind_some] at z; obtain ⟨q, hq, z⟩ := z
   obtain ⟨us, H, hrun⟩ := sY hS hvs
   obtain ⟨f', G2, hr, hm, hp, hM2, hren, hk, Z, O, U⟩ := o0 hS.memr hq
   rw [hr] at z
   simp only [AV.renAll] at z
   obtain rfl := ya z
   have hone : ∃ cv, (results fn a'.tmps).run P N = .ok cv N ∧ VR G' N (pV vs) cv := by
    have hmap : (fn.results.mapM (Kl a'.tmps)).run P N = .ok us.toArray N := by
     rw [Array.mapM_eq_mapM_toList, Sem.run_map, hrun]; rfl
    rw [H5]
    simp only [Sem.run_bind, hmap, Result.andThen_ok, Sem.run_pure]
    match vs, us, H with
    | [v], [u], H => exact ⟨u, by simp, H.2 0 v rfl⟩
    | [], us, H =>
     have := yp H.1.symm
     subst this
     exact ⟨.tuple #[], by simp, .tup [] #[] rfl (fun j y hy => by simp at hy)⟩
    | v :: v' :: vs, us, H =>
     refine ⟨.tuple us.toArray, ?_, .tup _ _ (by simpa using H.1) (fun j y hy => by rw [← cZ]; exact H.2 j y hy)⟩
     have : us.toArray.size ≠ 1 := by have := H.1; simp at this ⊢; omega
     rw [dif_neg this]
    | [v], [], H => have := H.1; simp at this
    | [v], _ :: _ :: _, H => have := H.1; simp at this
   obtain ⟨cv, hres, hvr⟩ := hone
   have W : ∃ v, (results fn a'.tmps).run P N = .ok v N ∧ ∃ q', good q' ∧ ∃ G' cv, Ending.returned v = .returned cv ∧ Ld G w mem q' G' N cv := by
    refine ⟨cv, hres, _, Y, G2, cv, rfl, ?_⟩
    refine ⟨hvr.ren (l := true) hren (fun β B o _ hb => by rw [hp]; exact hb) (fun _ => rfl), hI.ev, hm.trans hI.mine, fun β B o h => by rw [hp]; exact hI.prot β B o h, fun β B o h => hI.new β B o (by rw [hp] at h; exact h), hM2, Z, fun j x V => ?_, fun j hj => ?_⟩
    ·have J : (iM mem)[j]? = some (some x.row.isCells) := by simp [iM, V]
     obtain ⟨y, hy, hyk⟩ := O j _ J
     refine ⟨y, hy, hyk, fun hc L H => ?_⟩
     rw [hc] at J
     exact hk j J L (hI.keep j J L H)
    ·exact U j (by simp [iM, hj])
   cases e with
   | exit id => exact (hne ⟨id, rfl⟩).elim
   | normal => exact ⟨hS.defers, W⟩
   | ret => exact ⟨hS.defers, W⟩
def C0 (E : aD) (b : eU E.r) (q : AV × aW) : Prop := q.2 = (wD E b).2 ∧ ∀ G w cv, (∀ B o, Gh.prot G false B o → G.prot true B o) → VR G w q.1 cv → VR G w (wD E b).1 cv
theorem Jh {l : List Nat} (h : B8 l = true) : l = [0] := by
 unfold B8 at h
 split at h
 ·rfl
 ·cases h
theorem IQ {s : aI} (Y : s.sh.okL = true) (h2 : B8 s.slots = true) {v : KV} {m : aO} {d : s.den} (h : lE true s ⟨cX [0] [v], m⟩ = some d) :
  (cU s d).mem = m ∧ ∀ G w cv, (∀ B o, Gh.prot G false B o → G.prot true B o) → VR G w v.down cv → VR G w ((cU s d).env 0).down cv := by
 have U := Jh h2
 unfold lE at h
 split at h <;> try contradiction
 rename_i x J
 split at h <;> try contradiction
 rename_i y hy
 have O := ya h
 have Z := P2.fst_mk' O
 have V := P2.snd_mk' O
 rw [U] at J
 have J : dS true s.sh [v] = some x := J
 have K := lG J
 refine ⟨((wG hy).trans (congrArg (eH s.msh) V.symm)).symm, fun G w cv W hv => ?_⟩
 have H := kE.all (w := w) W Y K
 have N : (cU s d).env 0 = cX [0] (dG s.sh x) 0 := by
  show cX s.slots (dG s.sh (P2.fst s.sh.dflt s.sh.un s.msh.un d)) 0 = _
  rw [U]
  exact congrArg (fun u => cX [0] (dG s.sh u) 0) Z
 rw [N]
 have z := H.len
 rw [aK] at z
 generalize dG s.sh x = l at H z
 match l, z, H with
 | [u], _, H => exact H.1 cv hv
theorem Co {v : KV} {m : aO} : ∀ {l : List aI} {b : eU l}, (l.all fun s => s.sh.okL && B8 s.slots) = true → mJ true l .ret ⟨cX [0] [v], m⟩ = some b →
  (rE l b).2.mem = m ∧ ∀ G w cv, (∀ B o, Gh.prot G false B o → G.prot true B o) → VR G w v.down cv → VR G w ((rE l b).2.env 0).down cv
 | [], b, z, h => by cases h
 | [a], b, z, h => by
  rw [yk3, yc, yc] at z
  have H : (bif A4 a.ex .ret then lE true a ⟨cX [0] [v], m⟩ else none) = some b := h
  obtain ⟨O, J⟩ := cK.1 H
  exact IQ z.1.1 z.1.2 J
 | a :: K :: l, b, z, h => by
  rw [yk3, yc, yc] at z
  have H : (match (bif A4 a.ex .ret then lE true a ⟨cX [0] [v], m⟩ else none) with
   | some x => some (Sum.inl x)
   | none => (match mJ true (K :: l) .ret ⟨cX [0] [v], m⟩ with | some y => some (Sum.inr y) | none => none)) = some b := h
  split at H
  ·rename_i x N
   obtain ⟨O, J⟩ := cK.1 N
   have := ya H
   subst this
   exact IQ z.1.1 z.1.2 J
  ·split at H <;> try contradiction
   rename_i y U
   have := ya H
   subst this
   exact Co (l := K :: l) z.2 U
theorem m6 : ∀ {s : Sh} {d : s.den} {v : KV}, v ∈ dG s d → v ≠ .gone
 | .int _, d, v, h | .bool, d, v, h | .str, d, v, h | .nilS, d, v, h | .nilP, d, v, h | .undef, d, v, h | .sl _ _ _, d, v, h | .el _ _ _ _, d, v, h | .ptr _ _ _ _, d, v, h
 | .ptrI _ _ _, d, v, h | .ms _ _, d, v, h | .msw _ _, d, v, h | .fn _ _ _, d, v, h | .agg _, d, v, h | .tup _, d, v, h => by
  rw [yb1.1 h]
  intro h; cases h
 | .nil, d, v, h | .bnone, d, v, h | .bts _ _ _ _ _, d, v, h | .bcells _ _ _ _, d, v, h => by cases h
 | .cons a b, d, v, h => by
  have h : v ∈ dG a (P2.fst a.dflt a.un b.un d) ++ dG b (P2.snd b.dflt a.un b.un d) := h
  exact (yj1.1 h).elim (fun h => m6 h) (fun h => m6 h)
theorem yW {args : List KV} {n : Nat} (K : ∀ v ∈ args, v ≠ .gone) : fW (wU args n) (KV.downs args ++ List.replicate (n - args.length) (.lit undef)) := by
 intro t
 unfold wU
 rw [bO]
 cases z : args[t]? with
 | some v =>
  right
  simp only
  refine ⟨?_, ?_⟩
  ·have H : t < args.length := by
    rcases yu1 t args.length with h | h
    ·exact h
    ·rw [yy h] at z; cases z
   rw [bO, yo (by rw [aK]; exact H), cO, yc1, z]; rfl
  ·cases J : dV v.down with
   | false => rfl
   | true => exact absurd (p3.1 J) (K v (yt z))
 | none =>
  simp only
  have H : args.length ≤ t := by
   rcases yu1 t args.length with h | h
   ·rw [ye h] at z; cases z
   ·exact h
  cases N : Nat.blt t n with
  | false => left; rfl
  | true =>
   rw [Nat.blt_eq] at N
   right
   refine ⟨?_, rfl⟩
   simp only [yg]
   rw [bO, yq (by rw [aK]; exact H), yd2, aK, if_pos (by omega)]
   rfl
def L0 (fn : Func) (c : Code) (E : aD) : Bool := FU E && iR fn.ntmps c && Nat.ble E.a.slots.length fn.ntmps
open Classical in
theorem Ep (hn : n8 P = true) (hm : P.follows .mixedOrders = true) (ht : b9 P tab) {tbl : FuncId → List aD} (hto : ∀ g, (tbl g).all FU = true) (htb : ∀ g, ∀ E ∈ tbl g, nQ P g E)
  {f : FuncId} {fn : Func} (hf : P.funcs[f]? = some fn) {c : Code} (hb : fn.body = some c) {E : aD} (ho : L0 fn c E = true) {an : dJ} {loops : Nat → Option aH} {old : List (Option Bool)} {n : Nat}
  (J : ∀ d, gO (eH E.a.msh d) = old) (hl : nY tab tbl loops an old n c 0) (V : ∀ a, Je (aL (eU E.r)) tab tbl loops an fn E.a E.r a some = E.sh a) : nQ P f E := by
 intro a b hab G w as m vargs hle hM hg0 hv
 refine ⟨nR hf hn (by rw [hb]; rfl), ?_⟩
 simp only [L0, yc] at ho
 have N := ho.1.1
 simp only [FU, yc] at N
 obtain ⟨Z, hls, rfl⟩ := hle
 have hC := sT htb
 have K := kE.all (w := w) hM.lab N.1.1.1 hls
 have hv' := K.vrs hv
 have W := (V a).trans hab
 unfold Je LC at W
 rw [hb] at W
 simp only at W
 rw [J] at W
 let k1 : Ex → St → Option Unit := fun e st => if ∃ q, BO P fn old e st = some q ∧ C0 E b q then some () else none
 have hlenA : (dG E.a.sh (P2.fst E.a.sh.dflt E.a.sh.un E.a.msh.un a)).length ≤ fn.ntmps := by
  rw [← aK, ← K.len, Z]; exact nl.1 ho.2
 have U := w5 ht (Fk hto) (n := n) (m := fn.ntmps) c ho.1.2 (R1 := Unit) (r1 := ()) (k1 := k1) hl (yW (n := fn.ntmps) fun v hv => m6 hv)
  (by rw [yj, yc3, aK]; omega) W (fun e st' tmps' h1 h2 h3 => ?_)
 ·have H : iM (aB (eH E.a.msh (P2.snd E.a.msh.dflt E.a.sh.un E.a.msh.un a))) = old := (iQ _).trans (J _)
  have := KY hC (wF hm hC an) (n := n) hf hb (args := KV.downs (dG E.a.sh (P2.fst E.a.sh.dflt E.a.sh.un E.a.msh.un a))) (k1 := k1) (r1 := ()) (good := C0 E b) (fun e st h => by
   rw [H]
   show ∃ q, BO P fn old e st = some q ∧ C0 E b q
   by_cases hq : ∃ q, BO P fn old e st = some q ∧ C0 E b q
   ·exact hq
   ·have h : (if ∃ q, BO P fn old e st = some q ∧ C0 E b q then some () else none) = some () := h
    rw [if_neg hq] at h; cases h) (by rw [H, aK]; exact U) hM hg0 hv'
  refine this.mono fun e w' hq => ?_
  obtain ⟨q, hg, G', cv, he, z⟩ := hq
  obtain ⟨qv, qm⟩ := q
  obtain ⟨O, hg2⟩ := hg
  have O : qm = (wD E b).2 := O
  subst O
  exact ⟨G', cv, he, hg2 G' w' cv z.memR.lab z.v, z.ev, z.mine, z.prot, z.new, z.memR, z.gens, z.kept, z.nones⟩
 ·obtain ⟨v, mm, h4, h5⟩ := Gu ht h2 h1
  have Y : mJ true E.r .ret ⟨cX [0] [v], mm⟩ = some b := by
   split at h4
   ·rename_i b' hb'
    rw [hb', ya h4]
   ·cases h4
  obtain ⟨g1, g2⟩ := Co N.2 Y
  refine if_pos ⟨_, h5, ?_, ?_⟩
  ·exact congrArg aB g1.symm
  ·exact g2
end Go.Ab
