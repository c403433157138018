import Derived.Test.YtdlbbdbbpoggfaaLib26
set_option linter.unusedVariables false
set_option linter.unusedSectionVars false
set_option linter.unusedSimpArgs false
namespace Go.Ab
variable [b4]
variable {P : Program} {R : Type} {r : R} {tab : TypeId → Option TI} {mem : aD}
theorem E5 (ht : bG P tab) {env : Nat → KV} {tmps : List AV} (J : fB env tmps) : ∀ {rs : List ResultVar} {k : List KV → Option R}, Kj (aP R) tab env mem rs k = some r →
  ∃ vs, k vs = some r ∧ CN P tmps (aB mem) rs = some (KV.downs vs)
 | [], k, h => ⟨[], h, rfl⟩
 | .tmp t :: rs, k, h => by
  simp only [Kj] at h
  obtain ⟨v, I, h, _⟩ := aO J h
  obtain ⟨vs, h, H⟩ := E5 ht J h
  refine ⟨v :: vs, h, ?_⟩
  have I : CM tmps t = some v.down := I
  simp only [CN, I, H, ye, yg, KV.downs]
 | .cell a t :: rs, k, h => by
  simp only [Kj] at h
  obtain ⟨v, I, h, _⟩ := aO J h
  obtain ⟨o, h, K⟩ := GF ht h
  obtain ⟨vs, h, H⟩ := E5 ht J h
  refine ⟨o.v :: vs, h, ?_⟩
  have I : CM tmps a = some v.down := I
  simp only [CN, I, K, H, ye, yg, KV.downs, aZ.down]
theorem F2 (vs : List KV) : u0 (KV.downs vs) = (vY vs).down := by
 match vs with
 | [] => rfl
 | [v] => rfl
 | v :: w :: r => rfl
theorem JJ (ht : bG P tab) {fn : Func} {old : List (Option Bool)} {e : Iu} {st : yP} {tmps : List AV} (U : fB st.env tmps) {k : KV → aD → Option R} (h : PM (aP R) tab fn old e st k = some r) :
  ∃ v m, k v m = some r ∧ Dp P fn old e.down ⟨tmps, aB st.mem⟩ = some (v.down, aB m) := by
 have J : (Kj (aP R) tab st.env st.mem fn.results.toList fun vs => BF (aP R) true old [vY vs] st.mem fun ws mem' => (match ws with | [v] => k v mem' | _ => none)) = some r ∧ ∀ id, e ≠ .exit id := by
  cases e with
  | exit id => cases h
  | normal => exact ⟨h, fun _ h => by cases h⟩
  | ret => exact ⟨h, fun _ h => by cases h⟩
 obtain ⟨J, I⟩ := J
 obtain ⟨vs, N, O⟩ := E5 ht U J
 obtain ⟨ws, mem', M, K⟩ := Fj N
 split at M <;> try contradiction
 rename_i v
 refine ⟨v, mem', M, ?_⟩
 have H : ((CN P tmps (aB st.mem) fn.results.toList).bind fun vs => (rE true old [u0 vs] (aB st.mem)).bind fun q =>
   match q.1 with
   | [v] => some (v, q.2)
   | _ => none) = some (v.down, aB mem') := by
  have K : rE true old [(vY vs).down] (aB st.mem) = some ([v.down], aB mem') := K
  rw [O, ye, F2, K]
  rfl
 cases e with
 | exit id => exact (I id rfl).elim
 | normal => exact H
 | ret => exact H
theorem Nc {C : bQ} (hC : jN P C) {an : lC} (hD : C4 P C an) {n : Nat} {f : FuncId} {fn : Func} {args : List AV} {mem : aH} {G : Gh} {w : World} {I : Array Value} (hf : P.funcs[f]? = some fn) {c : Code} (hb : fn.body = some c)
  {R1 : Type} {r1 : R1} {k1 : Ex → St → Option R1} {good : AV × aH → Prop} (hk1 : ∀ e st, k1 e st = some r1 → ∃ q, Dp P fn (i5 mem) e st = some q ∧ good q)
  (h : eF P C an n (i5 mem) c 0 { tmps := args ++ List.replicate (fn.ntmps - args.length) (.lit undef), mem } k1 = some r1) (hM : aF G w mem) (hg0 : ∀ (j : Nat) (x : a9), mem[j]? = some (some x) → x.gen = 0) (hv : nC G w args I) :
  Calls P f I w fun e J => ∃ q, good q ∧ ∃ G' cv, e = .returned cv ∧ Oe G w mem q G' J cv := by
  refine calls_of_wp hf hb (nM hC hD c h (G := G) ⟨hM, ?_, fun j x U => ?_, rfl⟩ (CS.refl G w _) fun e V G' J a' H hS hI => ?_)
  ·simp [hv.1]
  ·right
   by_cases hj : j < args.length
   ·rw [yn hj] at U
    have := hv.2 j x U
    rw [yj, yn2 (by rw [← hv.1]; exact hj), ← yj]; exact this
   ·rw [yu (by omega), yw1] at U
    split at U
    ·rename_i hlt
     obtain rfl := ya U
     rw [yj, Array.getElem?_append_right (by rw [← hv.1]; omega), yw2, if_pos (by rw [← hv.1]; exact hlt)]
     exact .lit _ rfl
    ·simp at U
  ·obtain ⟨r, H, Y⟩ := hk1 _ _ H
   unfold Dp at H
   have key : (CN P V.tmps V.mem fn.results.toList).bind (fun vs => (rE true (i5 mem) [u0 vs] V.mem).bind fun q => match q.1 with
      | [v] => some (v, q.2)
      | _ => none) = some r ∧ ((∃ id, e = .exit id) → False) := by
    cases e with
    | exit id => simp at H
    | normal => exact ⟨H, by rintro ⟨_, h⟩; cases h⟩
    | ret => exact ⟨H, by rintro ⟨_, h⟩; cases h⟩
   obtain ⟨H, hne⟩ := key
   rw [bind_some] at H; obtain ⟨vs, hvs, H⟩ := H
   rw [bind_some] at H; obtain ⟨q, hq, H⟩ := H
   obtain ⟨us, hL, hrun⟩ := yV hS hvs
   obtain ⟨f', G1, G2, hr, hm, hp, hp1, hM2, hren, Z, M, W, K⟩ := vC hS.memr hq
   rw [hr] at H
   simp only [AV.renAll] at H
   obtain rfl := ya H
   have hone : ∃ cv, (results fn a'.tmps).run P J = .ok cv J ∧ VR G' J (u0 vs) cv := by
    have hmap : (fn.results.mapM (Nl a'.tmps)).run P J = .ok us.toArray J := by
     rw [Array.mapM_eq_mapM_toList, Sem.run_map, hrun]; rfl
    rw [Kk]
    simp only [Sem.run_bind, hmap, Result.andThen_ok, Sem.run_pure]
    match vs, us, hL with
    | [v], [u], hL => exact ⟨u, by simp, hL.2 0 v rfl⟩
    | [], us, hL =>
     have := yo hL.1.symm
     subst this
     exact ⟨.tuple #[], by simp, .tup [] #[] rfl (fun j y hy => by simp at hy)⟩
    | v :: v' :: vs, us, hL =>
     refine ⟨.tuple us.toArray, ?_, .tup _ _ (by simpa using hL.1) (fun j y hy => by rw [← d9]; exact hL.2 j y hy)⟩
     have : us.toArray.size ≠ 1 := by have := hL.1; simp at this ⊢; omega
     rw [dif_neg this]
    | [v], [], hL => have := hL.1; simp at this
    | [v], _ :: _ :: _, hL => have := hL.1; simp at this
   obtain ⟨cv, hres, hvr⟩ := hone
   have N : ∃ v, (results fn a'.tmps).run P J = .ok v J ∧ ∃ q', good q' ∧ ∃ G' cv, Ending.returned v = .returned cv ∧ Oe G w mem q' G' J cv := by
    refine ⟨cv, hres, _, Y, G2, cv, rfl, ?_⟩
    refine ⟨(Z 0 _ _ rfl hvr).ren (l := true) hren (fun β B o _ hb => by rw [hp, ← hp1]; exact hb) (fun _ => rfl), hI.ev, hm.trans hI.mine, fun β B o h => by rw [hp]; exact hI.prot β B o h, fun β B o h => hI.new β B o (by rw [hp] at h; exact h), hM2, (fun j y h => W j y (by simpa [i5] using h)), fun j x U => ?_, fun j hj => ?_⟩
    ·have O : (i5 mem)[j]? = some (some x.row.isCells) := by simp [i5, U]
     obtain ⟨y, hy, hyk, hk⟩ := M j _ O
     exact ⟨y, hy, hyk, fun L hL => hk L (hI.keep j _ O L hL)⟩
    ·exact K j (by simp [i5, hj])
   cases e with
   | exit id => exact (hne ⟨id, rfl⟩).elim
   | normal => exact ⟨hS.defers, N⟩
   | ret => exact ⟨hS.defers, N⟩
def F3 (E : aC) (b : eO E.r) (q : AV × aH) : Prop := q.2 = (AW E b).2 ∧ ∀ G w cv, (∀ B o, Gh.prot G false B o → G.prot true B o) → VR G w q.1 cv → VR G w (AW E b).1 cv
theorem Ml {l : List Nat} (h : Fa l = true) : l = [0] := by
 unfold Fa at h
 split at h
 ·rfl
 ·cases h
theorem Ly {s : jD} (V : s.sh.okL = true) (W : Fa s.slots = true) {v : KV} {m : aD} {d : s.den} (h : nH true s ⟨dR [0] [v], m⟩ = some d) :
  (dY s d).mem = m ∧ ∀ G w cv, (∀ B o, Gh.prot G false B o → G.prot true B o) → VR G w v.down cv → VR G w ((dY s d).env 0).down cv := by
 have O := Ml W
 unfold nH at h
 split at h <;> try contradiction
 rename_i x J
 split at h <;> try contradiction
 rename_i y hy
 have N := ya h
 have Y := P2.fst_mk' N
 have Z := P2.snd_mk' N
 rw [O] at J
 have J : eJ true s.sh [v] = some x := J
 have M := nP J
 refine ⟨((At hy).trans (congrArg (e8 s.msh) Z.symm)).symm, fun G w cv U hv => ?_⟩
 have I := lA.all (w := w) U V M
 have K : (dY s d).env 0 = dR [0] (c9 s.sh x) 0 := by
  show dR s.slots (c9 s.sh (P2.fst s.sh.dflt s.sh.un s.msh.un d)) 0 = _
  rw [O]
  exact congrArg (fun u => dR [0] (c9 s.sh u) 0) Y
 rw [K]
 have H := I.len
 rw [aG] at H
 generalize c9 s.sh x = l at I H
 match l, H, I with
 | [u], _, I => exact I.1 cv hv
theorem Fb {v : KV} {m : aD} : ∀ {l : List jD} {b : eO l}, (l.all fun s => s.sh.okL && Fa s.slots) = true → sR true l .ret ⟨dR [0] [v], m⟩ = some b →
  (wW l b).2.mem = m ∧ ∀ G w cv, (∀ B o, Gh.prot G false B o → G.prot true B o) → VR G w v.down cv → VR G w ((wW l b).2.env 0).down cv
 | [], b, H, h => by cases h
 | [a], b, H, h => by
  rw [yh3, yb, yb] at H
  have I : (bif FH a.ex .ret then nH true a ⟨dR [0] [v], m⟩ else none) = some b := h
  obtain ⟨M, J⟩ := bR.1 I
  exact Ly H.1.1 H.1.2 J
 | a :: K :: l, b, H, h => by
  rw [yh3, yb, yb] at H
  have I : (match (bif FH a.ex .ret then nH true a ⟨dR [0] [v], m⟩ else none) with
   | some x => some (Sum.inl x)
   | none => (match sR true (K :: l) .ret ⟨dR [0] [v], m⟩ with | some y => some (Sum.inr y) | none => none)) = some b := h
  split at I
  ·rename_i x O
   obtain ⟨M, J⟩ := bR.1 O
   have := ya I
   subst this
   exact Ly H.1.1 H.1.2 J
  ·split at I <;> try contradiction
   rename_i y N
   have := ya I
   subst this
   exact Fb (l := K :: l) H.2 N
theorem o7 : ∀ {s : Sh} {d : s.den} {v : KV}, v ∈ c9 s d → v ≠ .gone
 | .int _, d, v, h | .bool, d, v, h | .str, d, v, h | .nilS, d, v, h | .nilP, d, v, h | .undef, d, v, h | .sl _ _ _, d, v, h | .el _ _ _ _, d, v, h | .ptr _ _ _ _, d, v, h
 | .ptrI _ _ _, d, v, h | .ms _ _, d, v, h | .msw _ _, d, v, h | .fn _ _ _, d, v, h | .agg _, d, v, h | .tup _, d, v, h => by
  rw [yb2.1 h]
  intro h; cases h
 | .nil, d, v, h | .bnone, d, v, h | .bts _ _ _ _ _, d, v, h | .bcells _ _ _ _, d, v, h => by cases h
 | .cons a b, d, v, h => by
  have h : v ∈ c9 a (P2.fst a.dflt a.un b.un d) ++ c9 b (P2.snd b.dflt a.un b.un d) := h
  exact (yo1.1 h).elim (fun h => o7 h) (fun h => o7 h)
theorem Bx {args : List KV} {n : Nat} (J : ∀ v ∈ args, v ≠ .gone) : fB (Ad args n) (KV.downs args ++ List.replicate (n - args.length) (.lit undef)) := by
 intro t
 unfold Ad
 rw [aX]
 cases H : args[t]? with
 | some v =>
  right
  simp only
  refine ⟨?_, ?_⟩
  ·have ht : t < args.length := by
    rcases yc2 t args.length with h | h
    ·exact h
    ·rw [ya1 h] at H; cases H
   rw [aX, yn (by rw [aG]; exact ht), cY, yb1, H]; rfl
  ·cases K : eL v.down with
   | false => rfl
   | true => exact absurd (nQ.1 K) (J v (yt H))
 | none =>
  simp only
  have ht : args.length ≤ t := by
   rcases yc2 t args.length with h | h
   ·rw [yf h] at H; cases H
   ·exact h
  cases I : Nat.blt t n with
  | false => left; rfl
  | true =>
   rw [Nat.blt_eq] at I
   right
   refine ⟨?_, rfl⟩
   simp only [yl]
   rw [aX, yu (by rw [aG]; exact ht), yw1, aG, if_pos (by omega)]
   rfl
def Ol (fn : Func) (c : Code) (E : aC) : Bool := J5 E && kD fn.ntmps c && Nat.ble E.a.slots.length fn.ntmps
open Classical in
theorem H3 (hn : nT P = true) (hm : P.follows .mixedOrders = true) (ht : bG P tab) {tbl : FuncId → List aC} (hto : ∀ g, (tbl g).all J5 = true) (htb : ∀ g, ∀ E ∈ tbl g, qS P g E)
  {f : FuncId} {fn : Func} (hf : P.funcs[f]? = some fn) {c : Code} (hb : fn.body = some c) {E : aC} (Z : Ol fn c E = true) {an : lC} {loops : Nat → Option aL} {old : List (Option Bool)} {n : Nat}
  (K : ∀ d, e9 (e8 E.a.msh d) = old) (hl : qE tab tbl loops an old n c 0) (W : ∀ a, OP (aP (eO E.r)) tab tbl loops an fn E.a E.r a some = E.sh a) : qS P f E := by
 intro a b hab G w as m vargs hle hM hg0 hv
 refine ⟨q5 hf hn (by rw [hb]; rfl), ?_⟩
 simp only [Ol, yb] at Z
 have M := Z.1.1
 simp only [J5, yb] at M
 obtain ⟨V, hls, rfl⟩ := hle
 have hC := yW htb
 have J := lA.all (w := w) hM.lab M.1.1.1 hls
 have hv' := J.vrs hv
 have hr := (W a).trans hab
 unfold OP OZ at hr
 rw [hb] at hr
 simp only at hr
 rw [K] at hr
 let k1 : Ex → St → Option Unit := fun e st => if ∃ q, Dp P fn old e st = some q ∧ F3 E b q then some () else none
 have hlenA : (c9 E.a.sh (P2.fst E.a.sh.dflt E.a.sh.un E.a.msh.un a)).length ≤ fn.ntmps := by
  rw [← aG, ← J.len, V]; exact nl.1 Z.2
 have N := A7 ht (Hw hto) (n := n) (m := fn.ntmps) c Z.1.2 (R1 := Unit) (r1 := ()) (k1 := k1) hl (Bx (n := fn.ntmps) fun v hv => o7 hv)
  (by rw [yi1, yv2, aG]; omega) hr (fun e st' tmps' h1 h2 h3 => ?_)
 ·have I : i5 (aB (e8 E.a.msh (P2.snd E.a.msh.dflt E.a.sh.un E.a.msh.un a))) = old := (j9 _).trans (K _)
  have := Nc hC (AO hm hC an) (n := n) hf hb (args := KV.downs (c9 E.a.sh (P2.fst E.a.sh.dflt E.a.sh.un E.a.msh.un a))) (k1 := k1) (r1 := ()) (good := F3 E b) (fun e st h => by
   rw [I]
   show ∃ q, Dp P fn old e st = some q ∧ F3 E b q
   by_cases Y : ∃ q, Dp P fn old e st = some q ∧ F3 E b q
   ·exact Y
   ·have h : (if ∃ q, Dp P fn old e st = some q ∧ F3 E b q then some () else none) = some () := h
    rw [if_neg Y] at h; cases h) (by rw [I, aG]; exact N) hM hg0 hv'
  refine this.mono fun e w' Y => ?_
  obtain ⟨q, hg, G', cv, he, H⟩ := Y
  obtain ⟨qv, qm⟩ := q
  obtain ⟨O, hg2⟩ := hg
  have O : qm = (AW E b).2 := O
  subst O
  exact ⟨G', cv, he, hg2 G' w' cv H.memR.lab H.v, H.ev, H.mine, H.prot, H.new, H.memR, H.gens, H.kept, H.nones⟩
 ·obtain ⟨v, mm, h4, h5⟩ := JJ ht h2 h1
  have U : sR true E.r .ret ⟨dR [0] [v], mm⟩ = some b := by
   split at h4
   ·rename_i b' hb'
    rw [hb', ya h4]
   ·cases h4
  obtain ⟨g1, g2⟩ := Fb M.2 U
  refine if_pos ⟨_, h5, ?_, ?_⟩
  ·exact congrArg aB g1.symm
  ·exact g2
end Go.Ab
