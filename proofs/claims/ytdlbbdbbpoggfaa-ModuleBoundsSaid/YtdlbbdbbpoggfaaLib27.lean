import Derived.Test.YtdlbbdbbpoggfaaLib26
set_option linter.unusedVariables false
set_option linter.unusedSectionVars false
set_option linter.unusedSimpArgs false
namespace Go.Ab
variable [b4]
variable {P : Program} {R : Type} {r : R} {tab : TypeId → Option TI} {mem : aD}
theorem E4 (ht : bI P tab) {env : Nat → KV} {tmps : List AV} (J : fB env tmps) : ∀ {rs : List ResultVar} {k : List KV → Option R}, Le (aP R) tab env mem rs k = some r →
  ∃ vs, k vs = some r ∧ CS P tmps (aB mem) rs = some (KV.downs vs)
 | [], k, h => ⟨[], h, rfl⟩
 | .tmp t :: rs, k, h => by
  simp only [Le] at h
  obtain ⟨v, I, h, _⟩ := aO J h
  obtain ⟨vs, h, H⟩ := E4 ht J h
  refine ⟨v :: vs, h, ?_⟩
  have I : CV tmps t = some v.down := I
  simp only [CS, I, H, ye, yg, KV.downs]
 | .cell a t :: rs, k, h => by
  simp only [Le] at h
  obtain ⟨v, I, h, _⟩ := aO J h
  obtain ⟨o, h, K⟩ := GB ht h
  obtain ⟨vs, h, H⟩ := E4 ht J h
  refine ⟨o.v :: vs, h, ?_⟩
  have I : CV tmps a = some v.down := I
  simp only [CS, I, K, H, ye, yg, KV.downs, aZ.down]
theorem F2 (vs : List KV) : sD (KV.downs vs) = (wU vs).down := by
 match vs with
 | [] => rfl
 | [v] => rfl
 | v :: w :: r => rfl
theorem Jj (ht : bI P tab) {fn : Func} {old : List (Option Bool)} {e : Jk} {st : w9} {tmps : List AV} (N : fB st.env tmps) {k : KV → aD → Option R} (h : PI (aP R) tab fn old e st k = some r) :
  ∃ v m, k v m = some r ∧ FT P fn old e.down ⟨tmps, aB st.mem⟩ = some (v.down, aB m) := by
 have K : (Le (aP R) tab st.env st.mem fn.results.toList fun vs => A3 (aP R) true old [wU vs] st.mem fun ws mem' => (match ws with | [v] => k v mem' | _ => none)) = some r ∧ ∀ id, e ≠ .exit id := by
  cases e with
  | exit id => cases h
  | normal => exact ⟨h, fun _ h => by cases h⟩
  | ret => exact ⟨h, fun _ h => by cases h⟩
 obtain ⟨K, J⟩ := K
 obtain ⟨vs, O, U⟩ := E4 ht N K
 obtain ⟨ws, mem', M, I⟩ := E9 O
 split at M <;> try contradiction
 rename_i v
 refine ⟨v, mem', M, ?_⟩
 have H : ((CS P tmps (aB st.mem) fn.results.toList).bind fun vs => (rK true old [sD vs] (aB st.mem)).bind fun q =>
   match q.1 with
   | [v] => some (v, q.2)
   | _ => none) = some (v.down, aB mem') := by
  have I : rK true old [(wU vs).down] (aB st.mem) = some ([v.down], aB mem') := I
  rw [U, ye, F2, I]
  rfl
 cases e with
 | exit id => exact (J id rfl).elim
 | normal => exact H
 | ret => exact H
theorem NT {C : bQ} (hC : jK P C) {an : lA} (hD : C1 P C an) {n : Nat} {f : FuncId} {fn : Func} {args : List AV} {mem : aH} {G : Gh} {w : World} {I : Array Value} (hf : P.funcs[f]? = some fn) {c : Code} (hb : fn.body = some c)
  {R1 : Type} {r1 : R1} {k1 : Ex → St → Option R1} {good : AV × aH → Prop} (hk1 : ∀ e st, k1 e st = some r1 → ∃ q, FT P fn (i9 mem) e st = some q ∧ good q)
  (h : eH P C an n (i9 mem) c 0 { tmps := args ++ List.replicate (fn.ntmps - args.length) (.lit undef), mem } k1 = some r1) (hM : aF G w mem) (hg0 : ∀ (j : Nat) (x : a9), mem[j]? = some (some x) → x.gen = 0) (hv : m8 G w args I) :
  Calls P f I w fun e J => ∃ q, good q ∧ ∃ G' cv, e = .returned cv ∧ NY G w mem q G' J cv := by
  refine calls_of_wp hf hb (nF hC hD c h (G := G) ⟨hM, ?_, fun j x N => ?_, rfl⟩ (CR.refl G w _) fun e W G' J a' H hS hI => ?_)
  ·simp [hv.1]
  ·right
   by_cases hj : j < args.length
   ·rw [yn hj] at N
    have := hv.2 j x N
    rw [yj, yn2 (by rw [← hv.1]; exact hj), ← yj]; exact this
   ·rw [yu (by omega), yw1] at N
    split at N
    ·rename_i hlt
     obtain rfl := ya N
     rw [yj, Array.getElem?_append_right (by rw [← hv.1]; omega), yw2, if_pos (by rw [← hv.1]; exact hlt)]
     exact .lit _ rfl
    ·simp at N
  ·obtain ⟨r, H, V⟩ := hk1 _ _ H
   unfold FT at H
   have key : (CS P W.tmps W.mem fn.results.toList).bind (fun vs => (rK true (i9 mem) [sD vs] W.mem).bind fun q => match q.1 with
      | [v] => some (v, q.2)
      | _ => none) = some r ∧ ((∃ id, e = .exit id) → False) := by
    cases e with
    | exit id => simp at H
    | normal => exact ⟨H, by rintro ⟨_, h⟩; cases h⟩
    | ret => exact ⟨H, by rintro ⟨_, h⟩; cases h⟩
   obtain ⟨H, hne⟩ := key
   rw [bind_some] at H; obtain ⟨vs, hvs, H⟩ := H
   rw [bind_some] at H; obtain ⟨q, hq, H⟩ := H
   obtain ⟨us, hL, hrun⟩ := zJ hS hvs
   obtain ⟨f', G1, G2, hr, hm, hp, hp1, hM2, hren, Z, K, Y, M⟩ := sF hS.memr hq
   rw [hr] at H
   simp only [AV.renAll] at H
   obtain rfl := ya H
   have hone : ∃ cv, (results fn a'.tmps).run P J = .ok cv J ∧ VR G' J (sD vs) cv := by
    have hmap : (fn.results.mapM (Oe a'.tmps)).run P J = .ok us.toArray J := by
     rw [Array.mapM_eq_mapM_toList, Sem.run_map, hrun]; rfl
    rw [KA]
    simp only [Sem.run_bind, hmap, Result.andThen_ok, Sem.run_pure]
    match vs, us, hL with
    | [v], [u], hL => exact ⟨u, by simp, hL.2 0 v rfl⟩
    | [], us, hL =>
     have := yo hL.1.symm
     subst this
     exact ⟨.tuple #[], by simp, .tup [] #[] rfl (fun j y hy => by simp at hy)⟩
    | v :: v' :: vs, us, hL =>
     refine ⟨.tuple us.toArray, ?_, .tup _ _ (by simpa using hL.1) (fun j y hy => by rw [← eA]; exact hL.2 j y hy)⟩
     have : us.toArray.size ≠ 1 := by have := hL.1; simp at this ⊢; omega
     rw [dif_neg this]
    | [v], [], hL => have := hL.1; simp at this
    | [v], _ :: _ :: _, hL => have := hL.1; simp at this
   obtain ⟨cv, hres, hvr⟩ := hone
   have U : ∃ v, (results fn a'.tmps).run P J = .ok v J ∧ ∃ q', good q' ∧ ∃ G' cv, Ending.returned v = .returned cv ∧ NY G w mem q' G' J cv := by
    refine ⟨cv, hres, _, V, G2, cv, rfl, ?_⟩
    refine ⟨(Z 0 _ _ rfl hvr).ren (l := true) hren (fun β B o _ hb => by rw [hp, ← hp1]; exact hb) (fun _ => rfl), hI.ev, hm.trans hI.mine, fun β B o h => by rw [hp]; exact hI.prot β B o h, fun β B o h => hI.new β B o (by rw [hp] at h; exact h), hM2, (fun j y h => Y j y (by simpa [i9] using h)), fun j x N => ?_, fun j hj => ?_⟩
    ·have O : (i9 mem)[j]? = some (some x.row.isCells) := by simp [i9, N]
     obtain ⟨y, hy, hyk, hk⟩ := K j _ O
     exact ⟨y, hy, hyk, fun L hL => hk L (hI.keep j _ O L hL)⟩
    ·exact M j (by simp [i9, hj])
   cases e with
   | exit id => exact (hne ⟨id, rfl⟩).elim
   | normal => exact ⟨hS.defers, U⟩
   | ret => exact ⟨hS.defers, U⟩
def F6 (E : aC) (b : eN E.r) (q : AV × aH) : Prop := q.2 = (zZ E b).2 ∧ ∀ G w cv, (∀ B o, Gh.prot G false B o → G.prot true B o) → VR G w q.1 cv → VR G w (zZ E b).1 cv
theorem Me {l : List Nat} (h : Eu l = true) : l = [0] := by
 unfold Eu at h
 split at h
 ·rfl
 ·cases h
theorem L5 {s : jD} (U : s.sh.okL = true) (Z : Eu s.slots = true) {v : KV} {m : aD} {d : s.den} (h : nL true s ⟨dP [0] [v], m⟩ = some d) :
  (dZ s d).mem = m ∧ ∀ G w cv, (∀ B o, Gh.prot G false B o → G.prot true B o) → VR G w v.down cv → VR G w ((dZ s d).env 0).down cv := by
 have N := Me Z
 unfold nL at h
 split at h <;> try contradiction
 rename_i x J
 split at h <;> try contradiction
 rename_i y W
 have O := ya h
 have e1 := P2.fst_mk' O
 have Y := P2.snd_mk' O
 rw [N] at J
 have J : eJ true s.sh [v] = some x := J
 have K := nR J
 refine ⟨((Ak W).trans (congrArg (e8 s.msh) Y.symm)).symm, fun G w cv V hv => ?_⟩
 have I := lC.all (w := w) V U K
 have M : (dZ s d).env 0 = dP [0] (c9 s.sh x) 0 := by
  show dP s.slots (c9 s.sh (P2.fst s.sh.dflt s.sh.un s.msh.un d)) 0 = _
  rw [N]
  exact congrArg (fun u => dP [0] (c9 s.sh u) 0) e1
 rw [M]
 have H := I.len
 rw [aG] at H
 generalize c9 s.sh x = l at I H
 match l, H, I with
 | [u], _, I => exact I.1 cv hv
theorem Ec {v : KV} {m : aD} : ∀ {l : List jD} {b : eN l}, (l.all fun s => s.sh.okL && Eu s.slots) = true → rX true l .ret ⟨dP [0] [v], m⟩ = some b →
  (wX l b).2.mem = m ∧ ∀ G w cv, (∀ B o, Gh.prot G false B o → G.prot true B o) → VR G w v.down cv → VR G w ((wX l b).2.env 0).down cv
 | [], b, H, h => by cases h
 | [a], b, H, h => by
  rw [yh3, yb, yb] at H
  have I : (bif D0 a.ex .ret then nL true a ⟨dP [0] [v], m⟩ else none) = some b := h
  obtain ⟨M, J⟩ := bP.1 I
  exact L5 H.1.1 H.1.2 J
 | a :: K :: l, b, H, h => by
  rw [yh3, yb, yb] at H
  have I : (match (bif D0 a.ex .ret then nL true a ⟨dP [0] [v], m⟩ else none) with
   | some x => some (Sum.inl x)
   | none => (match rX true (K :: l) .ret ⟨dP [0] [v], m⟩ with | some y => some (Sum.inr y) | none => none)) = some b := h
  split at I
  ·rename_i x O
   obtain ⟨M, J⟩ := bP.1 O
   have := ya I
   subst this
   exact L5 H.1.1 H.1.2 J
  ·split at I <;> try contradiction
   rename_i y N
   have := ya I
   subst this
   exact Ec (l := K :: l) H.2 N
theorem oL : ∀ {s : Sh} {d : s.den} {v : KV}, v ∈ c9 s d → v ≠ .gone
 | .int _, d, v, h | .bool, d, v, h | .str, d, v, h | .nilS, d, v, h | .nilP, d, v, h | .undef, d, v, h | .sl _ _ _, d, v, h | .el _ _ _ _, d, v, h | .ptr _ _ _ _, d, v, h
 | .ptrI _ _ _, d, v, h | .ms _ _, d, v, h | .msw _ _, d, v, h | .fn _ _ _, d, v, h | .agg _, d, v, h | .tup _, d, v, h => by
  rw [yb2.1 h]
  intro h; cases h
 | .nil, d, v, h | .bnone, d, v, h | .bts _ _ _ _ _, d, v, h | .bcells _ _ _ _, d, v, h => by cases h
 | .cons a b, d, v, h => by
  have h : v ∈ c9 a (P2.fst a.dflt a.un b.un d) ++ c9 b (P2.snd b.dflt a.un b.un d) := h
  exact (yo1.1 h).elim (fun h => oL h) (fun h => oL h)
theorem BR {args : List KV} {n : Nat} (K : ∀ v ∈ args, v ≠ .gone) : fB (As args n) (KV.downs args ++ List.replicate (n - args.length) (.lit undef)) := by
 intro t
 unfold As
 rw [aX]
 cases H : args[t]? with
 | some v =>
  right
  simp only
  refine ⟨?_, ?_⟩
  ·have ht : t < args.length := by
    rcases yc2 t args.length with h | h
    ·exact h
    ·rw [ya1 h] at H; cases H
   rw [aX, yn (by rw [aG]; exact ht), cZ, yb1, H]; rfl
  ·cases J : eL v.down with
   | false => rfl
   | true => exact absurd (nM.1 J) (K v (yt H))
 | none =>
  simp only
  have ht : args.length ≤ t := by
   rcases yc2 t args.length with h | h
   ·rw [yf h] at H; cases H
   ·exact h
  cases I : Nat.blt t n with
  | false => left; rfl
  | true =>
   rw [Nat.blt_eq] at I
   right
   refine ⟨?_, rfl⟩
   simp only [yl]
   rw [aX, yu (by rw [aG]; exact ht), yw1, aG, if_pos (by omega)]
   rfl
def Om (fn : Func) (c : Code) (E : aC) : Bool := J7 E && j2 fn.ntmps c && Nat.ble E.a.slots.length fn.ntmps
open Classical in
theorem Im (hn : m9 P = true) (hm : P.follows .mixedOrders = true) (ht : bI P tab) {tbl : FuncId → List aC} (hto : ∀ g, (tbl g).all J7 = true) (htb : ∀ g, ∀ E ∈ tbl g, pL P g E)
  {f : FuncId} {fn : Func} (hf : P.funcs[f]? = some fn) {c : Code} (hb : fn.body = some c) {E : aC} (Y : Om fn c E = true) {an : lA} {loops : Nat → Option aL} {old : List (Option Bool)} {n : Nat}
  (K : ∀ d, e7 (e8 E.a.msh d) = old) (hl : pN tab tbl loops an old n c 0) (U : ∀ a, OG (aP (eN E.r)) tab tbl loops an fn E.a E.r a some = E.sh a) : pL P f E := by
 intro a b hab G w as m vargs hle hM hg0 hv
 refine ⟨qM hf hn (by rw [hb]; rfl), ?_⟩
 simp only [Om, yb] at Y
 have O := Y.1.1
 simp only [J7, yb] at O
 obtain ⟨W, hls, rfl⟩ := hle
 have hC := zC htb
 have J := lC.all (w := w) hM.lab O.1.1.1 hls
 have hv' := J.vrs hv
 have hr := (U a).trans hab
 unfold OG Ot at hr
 rw [hb] at hr
 simp only at hr
 rw [K] at hr
 let k1 : Ex → St → Option Unit := fun e st => if ∃ q, FT P fn old e st = some q ∧ F6 E b q then some () else none
 have hlenA : (c9 E.a.sh (P2.fst E.a.sh.dflt E.a.sh.un E.a.msh.un a)).length ≤ fn.ntmps := by
  rw [← aG, ← J.len, W]; exact nl.1 Y.2
 have M := BH ht (HQ hto) (n := n) (m := fn.ntmps) c Y.1.2 (R1 := Unit) (r1 := ()) (k1 := k1) hl (BR (n := fn.ntmps) fun v hv => oL hv)
  (by rw [yi1, yv2, aG]; omega) hr (fun e st' tmps' h1 h2 h3 => ?_)
 ·have I : i9 (aB (e8 E.a.msh (P2.snd E.a.msh.dflt E.a.sh.un E.a.msh.un a))) = old := (j9 _).trans (K _)
  have := NT hC (AI hm hC an) (n := n) hf hb (args := KV.downs (c9 E.a.sh (P2.fst E.a.sh.dflt E.a.sh.un E.a.msh.un a))) (k1 := k1) (r1 := ()) (good := F6 E b) (fun e st h => by
   rw [I]
   show ∃ q, FT P fn old e st = some q ∧ F6 E b q
   by_cases Z : ∃ q, FT P fn old e st = some q ∧ F6 E b q
   ·exact Z
   ·have h : (if ∃ q, FT P fn old e st = some q ∧ F6 E b q then some () else none) = some () := h
    rw [if_neg Z] at h; cases h) (by rw [I, aG]; exact M) hM hg0 hv'
  refine this.mono fun e w' Z => ?_
  obtain ⟨q, hg, G', cv, he, H⟩ := Z
  obtain ⟨qv, qm⟩ := q
  obtain ⟨N, hg2⟩ := hg
  have N : qm = (zZ E b).2 := N
  subst N
  exact ⟨G', cv, he, hg2 G' w' cv H.memR.lab H.v, H.ev, H.mine, H.prot, H.new, H.memR, H.gens, H.kept, H.nones⟩
 ·obtain ⟨v, mm, h4, h5⟩ := Jj ht h2 h1
  have V : rX true E.r .ret ⟨dP [0] [v], mm⟩ = some b := by
   split at h4
   ·rename_i b' hb'
    rw [hb', ya h4]
   ·cases h4
  obtain ⟨g1, g2⟩ := Ec O.2 V
  refine if_pos ⟨_, h5, ?_, ?_⟩
  ·exact congrArg aB g1.symm
  ·exact g2
end Go.Ab
