import Derived.Test.YtdlbbdbbpoggfaaLib27
set_option linter.unusedVariables false
set_option linter.unusedSectionVars false
set_option linter.unusedSimpArgs false
namespace Go.Ab
variable [GTab]
variable {P : Program} {R : Type} {r : R} {tab : TypeId → Option TI} {mem : KMem}
theorem zhC (ht : TabOK P tab) {env : Nat → KV} {tmps : List AV} (he : EnvR env tmps) : ∀ {rs : List ResultVar} {k : List KV → Option R}, resK (real R) tab env mem rs k = some r →
  ∃ vs, k vs = some r ∧ resA P tmps (kdown mem) rs = some (KV.downs vs)
 | [], k, h => ⟨[], h, rfl⟩
 | .tmp t :: rs, k, h => by
  simp only [resK] at h
  obtain ⟨v, hv, h, _⟩ := zd he h
  obtain ⟨vs, h, hvs⟩ := zhC ht he h
  refine ⟨v :: vs, h, ?_⟩
  have hv : getT tmps t = some v.down := hv
  simp only [resA, hv, hvs, yc, yk, KV.downs]
 | .cell a t :: rs, k, h => by
  simp only [resK] at h
  obtain ⟨v, hv, h, _⟩ := zd he h
  obtain ⟨o, h, ho⟩ := zjN ht h
  obtain ⟨vs, h, hvs⟩ := zhC ht he h
  refine ⟨o.v :: vs, h, ?_⟩
  have hv : getT tmps a = some v.down := hv
  simp only [resA, hv, ho, hvs, yc, yk, KV.downs, KOut.down]
theorem zjh (vs : List KV) : oneOrTup (KV.downs vs) = (oneOrTupK vs).down := by
 match vs with
 | [] => rfl
 | [v] => rfl
 | v :: w :: r => rfl
theorem zmy (ht : TabOK P tab) {fn : Func} {old : List (Option Bool)} {e : ExK} {st : KSt} {tmps : List AV} (he : EnvR st.env tmps) {k : KV → KMem → Option R} (h : endK (real R) tab fn old e st k = some r) :
  ∃ v m, k v m = some r ∧ endA P fn old e.down ⟨tmps, kdown st.mem⟩ = some (v.down, kdown m) := by
 have h' : (resK (real R) tab st.env st.mem fn.results.toList fun vs => canonK (real R) true old [oneOrTupK vs] st.mem fun ws mem' => (match ws with | [v] => k v mem' | _ => none)) = some r ∧ ∀ id, e ≠ .exit id := by
  cases e with
  | exit id => cases h
  | normal => exact ⟨h, fun _ h => by cases h⟩
  | ret => exact ⟨h, fun _ h => by cases h⟩
 obtain ⟨h', hne⟩ := h'
 obtain ⟨vs, h1, h2⟩ := zhC ht he h'
 obtain ⟨ws, mem', h3, h4⟩ := zhH h1
 split at h3 <;> try contradiction
 rename_i v
 refine ⟨v, mem', h3, ?_⟩
 have key : ((resA P tmps (kdown st.mem) fn.results.toList).bind fun vs => (canon true old [oneOrTup vs] (kdown st.mem)).bind fun q =>
   match q.1 with
   | [v] => some (v, q.2)
   | _ => none) = some (v.down, kdown mem') := by
  have h4 : canon true old [(oneOrTupK vs).down] (kdown st.mem) = some ([v.down], kdown mem') := h4
  rw [h2, yc, zjh, h4]
  rfl
 cases e with
 | exit id => exact (hne id rfl).elim
 | normal => exact key
 | ret => exact key
theorem zpy {C : Oracle} (hC : OracleOK P C) {an : Ann} (hD : DrawsOK P C an) {n : Nat} {f : FuncId} {fn : Func} {args : List AV} {mem : Mem} {G : Gh} {w : World} {vargs : Array Value} (hf : P.funcs[f]? = some fn) {c : Code} (hb : fn.body = some c)
  {R1 : Type} {r1 : R1} {k1 : Ex → St → Option R1} {good : AV × Mem → Prop} (hk1 : ∀ e st, k1 e st = some r1 → ∃ q, endA P fn (kinds mem) e st = some q ∧ good q)
  (h : codeA P C an n (kinds mem) c 0 { tmps := args ++ List.replicate (fn.ntmps - args.length) (.lit undef), mem } k1 = some r1) (hM : MemR G w mem) (hg0 : ∀ (j : Nat) (x : Box), mem[j]? = some (some x) → x.gen = 0) (hv : VRs G w args vargs) :
  Calls P f vargs w fun e w' => ∃ q, good q ∧ ∃ G' cv, e = .returned cv ∧ Ret G w mem q G' w' cv := by
  refine calls_of_wp hf hb (zlM hC hD c h (G := G) ⟨hM, ?_, fun j x hx => ?_, rfl⟩ (Inv.refl G w _) fun e st' G' w' a' he hS hI => ?_)
  ·simp [hv.1]
  ·right
   by_cases hj : j < args.length
   ·rw [yp hj] at hx
    have := hv.2 j x hx
    rw [ym, yt2 (by rw [← hv.1]; exact hj), ← ym]; exact this
   ·rw [yu (by omega), yz1] at hx
    split at hx
    ·rename_i hlt
     obtain rfl := ya hx
     rw [ym, Array.getElem?_append_right (by rw [← hv.1]; omega), yg3, if_pos (by rw [← hv.1]; exact hlt)]
     exact .lit _ rfl
    ·simp at hx
  ·obtain ⟨r, he, hgood⟩ := hk1 _ _ he
   unfold endA at he
   have key : (resA P st'.tmps st'.mem fn.results.toList).bind (fun vs => (canon true (kinds mem) [oneOrTup vs] st'.mem).bind fun q => match q.1 with
      | [v] => some (v, q.2)
      | _ => none) = some r ∧ ((∃ id, e = .exit id) → False) := by
    cases e with
    | exit id => simp at he
    | normal => exact ⟨he, by rintro ⟨_, h⟩; cases h⟩
    | ret => exact ⟨he, by rintro ⟨_, h⟩; cases h⟩
   obtain ⟨he, hne⟩ := key
   rw [bind_some] at he; obtain ⟨vs, hvs, he⟩ := he
   rw [bind_some] at he; obtain ⟨q, hq, he⟩ := he
   obtain ⟨us, hL, hrun⟩ := zeK hS hvs
   obtain ⟨f', G1, G2, hr, hm, hp, hp1, hM2, hren, hvals, hkinds, hgens, hnones⟩ := zgC hS.memr hq
   rw [hr] at he
   simp only [AV.renAll] at he
   obtain rfl := ya he
   have hone : ∃ cv, (results fn a'.tmps).run P w' = .ok cv w' ∧ VR G' w' (oneOrTup vs) cv := by
    have hmap : (fn.results.mapM (resV a'.tmps)).run P w' = .ok us.toArray w' := by
     rw [Array.mapM_eq_mapM_toList, Sem.run_map, hrun]; rfl
    rw [znb]
    simp only [Sem.run_bind, hmap, Result.andThen_ok, Sem.run_pure]
    match vs, us, hL with
    | [v], [u], hL => exact ⟨u, by simp, hL.2 0 v rfl⟩
    | [], us, hL =>
     have := yo hL.1.symm
     subst this
     exact ⟨.tuple #[], by simp, .tup [] #[] rfl (fun j y hy => by simp at hy)⟩
    | v :: v' :: vs, us, hL =>
     refine ⟨.tuple us.toArray, ?_, .tup _ _ (by simpa using hL.1) (fun j y hy => by rw [← zS]; exact hL.2 j y hy)⟩
     have : us.toArray.size ≠ 1 := by have := hL.1; simp at this ⊢; omega
     rw [dif_neg this]
    | [v], [], hL => have := hL.1; simp at this
    | [v], _ :: _ :: _, hL => have := hL.1; simp at this
   obtain ⟨cv, hres, hvr⟩ := hone
   have hret : ∃ v, (results fn a'.tmps).run P w' = .ok v w' ∧ ∃ q', good q' ∧ ∃ G' cv, Ending.returned v = .returned cv ∧ Ret G w mem q' G' w' cv := by
    refine ⟨cv, hres, _, hgood, G2, cv, rfl, ?_⟩
    refine ⟨(hvals 0 _ _ rfl hvr).ren (l := true) hren (fun β B o _ hb => by rw [hp, ← hp1]; exact hb) (fun _ => rfl), hI.ev, hm.trans hI.mine, fun β B o h => by rw [hp]; exact hI.prot β B o h, fun β B o h => hI.new β B o (by rw [hp] at h; exact h), hM2, (fun j y h => hgens j y (by simpa [kinds] using h)), fun j x hx => ?_, fun j hj => ?_⟩
    ·have hold : (kinds mem)[j]? = some (some x.row.isCells) := by simp [kinds, hx]
     obtain ⟨y, hy, hyk, hk⟩ := hkinds j _ hold
     exact ⟨y, hy, hyk, fun L hL => hk L (hI.keep j _ hold L hL)⟩
    ·exact hnones j (by simp [kinds, hj])
   cases e with
   | exit id => exact (hne ⟨id, rfl⟩).elim
   | normal => exact ⟨hS.defers, hret⟩
   | ret => exact ⟨hS.defers, hret⟩
def Good (E : Entry) (b : VDen E.r) (q : AV × Mem) : Prop := q.2 = (resOf E b).2 ∧ ∀ G w cv, (∀ B o, Gh.prot G false B o → G.prot true B o) → VR G w q.1 cv → VR G w (resOf E b).1 cv
theorem zpb {l : List Nat} (h : isZero l = true) : l = [0] := by
 unfold isZero at h
 split at h
 ·rfl
 ·cases h
theorem zob {s : StSh} (h1 : s.sh.okL = true) (h2 : isZero s.slots = true) {v : KV} {m : KMem} {d : s.den} (h : decSt true s ⟨envOf [0] [v], m⟩ = some d) :
  (encSt s d).mem = m ∧ ∀ G w cv, (∀ B o, Gh.prot G false B o → G.prot true B o) → VR G w v.down cv → VR G w ((encSt s d).env 0).down cv := by
 have hz := zpb h2
 unfold decSt at h
 split at h <;> try contradiction
 rename_i x hx
 split at h <;> try contradiction
 rename_i y hy
 have hp := ya h
 have e1 := P2.fst_mk' hp
 have e2 := P2.snd_mk' hp
 rw [hz] at hx
 have hx : decS true s.sh [v] = some x := hx
 have hle := zbX hx
 refine ⟨((zfF hy).trans (congrArg (encM s.msh) e2.symm)).symm, fun G w cv hl hv => ?_⟩
 have ha := LeS.all (w := w) hl h1 hle
 have hen : (encSt s d).env 0 = envOf [0] (encS s.sh x) 0 := by
  show envOf s.slots (encS s.sh (P2.fst s.sh.dflt s.sh.un s.msh.un d)) 0 = _
  rw [hz]
  exact congrArg (fun u => envOf [0] (encS s.sh u) 0) e1
 rw [hen]
 have hlen := ha.len
 rw [zb] at hlen
 generalize encS s.sh x = l at ha hlen
 match l, hlen, ha with
 | [u], _, ha => exact ha.1 cv hv
theorem zia {v : KV} {m : KMem} : ∀ {l : List StSh} {b : VDen l}, (l.all fun s => s.sh.okL && isZero s.slots) = true → decV true l .ret ⟨envOf [0] [v], m⟩ = some b →
  (outP l b).2.mem = m ∧ ∀ G w cv, (∀ B o, Gh.prot G false B o → G.prot true B o) → VR G w v.down cv → VR G w ((outP l b).2.env 0).down cv
 | [], b, ho, h => by cases h
 | [a], b, ho, h => by
  rw [yj3, yb, yb] at ho
  have h' : (bif beqEx a.ex .ret then decSt true a ⟨envOf [0] [v], m⟩ else none) = some b := h
  obtain ⟨h1, h2⟩ := cds.1 h'
  exact zob ho.1.1 ho.1.2 h2
 | a :: a' :: l, b, ho, h => by
  rw [yj3, yb, yb] at ho
  have h' : (match (bif beqEx a.ex .ret then decSt true a ⟨envOf [0] [v], m⟩ else none) with
   | some x => some (Sum.inl x)
   | none => (match decV true (a' :: l) .ret ⟨envOf [0] [v], m⟩ with | some y => some (Sum.inr y) | none => none)) = some b := h
  split at h'
  ·rename_i x hx
   obtain ⟨h1, h2⟩ := cds.1 hx
   have := ya h'
   subst this
   exact zob ho.1.1 ho.1.2 h2
  ·split at h' <;> try contradiction
   rename_i y hy
   have := ya h'
   subst this
   exact zia (l := a' :: l) ho.2 hy
theorem zel : ∀ {s : Sh} {d : s.den} {v : KV}, v ∈ encS s d → v ≠ .gone
 | .int _, d, v, h | .bool, d, v, h | .str, d, v, h | .nilS, d, v, h | .nilP, d, v, h | .undef, d, v, h | .sl _ _ _, d, v, h | .el _ _ _ _, d, v, h | .ptr _ _ _ _, d, v, h
 | .ptrI _ _ _, d, v, h | .ms _ _, d, v, h | .msw _ _, d, v, h | .fn _ _ _, d, v, h | .agg _, d, v, h | .tup _, d, v, h => by
  rw [ya2.1 h]
  intro h; cases h
 | .nil, d, v, h | .bnone, d, v, h | .bts _ _ _ _ _, d, v, h | .bcells _ _ _ _, d, v, h => by cases h
 | .cons a b, d, v, h => by
  have h : v ∈ encS a (P2.fst a.dflt a.un b.un d) ++ encS b (P2.snd b.dflt a.un b.un d) := h
  exact (yl1.1 h).elim (fun h => zel h) (fun h => zel h)
theorem zjv {args : List KV} {n : Nat} (hh : ∀ v ∈ args, v ≠ .gone) : EnvR (envArgs args n) (KV.downs args ++ List.replicate (n - args.length) (.lit undef)) := by
 intro t
 unfold envArgs
 rw [zf]
 cases hx : args[t]? with
 | some v =>
  right
  simp only
  refine ⟨?_, ?_⟩
  ·have ht : t < args.length := by
    rcases yc2 t args.length with h | h
    ·exact h
    ·rw [ya1 h] at hx; cases hx
   rw [zf, yp (by rw [zb]; exact ht), zy, yc1, hx]; rfl
  ·cases hg : isGone v.down with
   | false => rfl
   | true => exact absurd (zbV.1 hg) (hh v (yj hx))
 | none =>
  simp only
  have ht : args.length ≤ t := by
   rcases yc2 t args.length with h | h
   ·rw [yf h] at hx; cases hx
   ·exact h
  cases hb : Nat.blt t n with
  | false => left; rfl
  | true =>
   rw [Nat.blt_eq] at hb
   right
   refine ⟨?_, rfl⟩
   simp only [yg]
   rw [zf, yu (by rw [zb]; exact ht), yz1, zb, if_pos (by omega)]
   rfl
def okF (fn : Func) (c : Code) (E : Entry) : Bool := okE E && dstsOk fn.ntmps c && Nat.ble E.a.slots.length fn.ntmps
open Classical in
theorem zkP (hn : namesOK P = true) (hm : P.follows .mixedOrders = true) (ht : TabOK P tab) {tbl : FuncId → List Entry} (hto : ∀ g, (tbl g).all okE = true) (htb : ∀ g, ∀ E ∈ tbl g, EntryOK P g E)
  {f : FuncId} {fn : Func} (hf : P.funcs[f]? = some fn) {c : Code} (hb : fn.body = some c) {E : Entry} (ho : okF fn c E = true) {an : Ann} {loops : Nat → Option LEntry} {old : List (Option Bool)} {n : Nat}
  (hold : ∀ d, kindsK (encM E.a.msh d) = old) (hl : LoopsOK tab tbl loops an old n c 0) (hrun : ∀ a, funD (real (VDen E.r)) tab tbl loops an fn E.a E.r a some = E.sh a) : EntryOK P f E := by
 intro a b hab G w as m vargs hle hM hg0 hv
 refine ⟨zfH hf hn (by rw [hb]; rfl), ?_⟩
 simp only [okF, yb] at ho
 have hoE := ho.1.1
 simp only [okE, yb] at hoE
 obtain ⟨hlen, hls, rfl⟩ := hle
 have hC := ziM htb
 have hAll := LeS.all (w := w) hM.lab hoE.1.1.1 hls
 have hv' := hAll.vrs hv
 have hr := (hrun a).trans hab
 unfold funD funK at hr
 rw [hb] at hr
 simp only at hr
 rw [hold] at hr
 let k1 : Ex → St → Option Unit := fun e st => if ∃ q, endA P fn old e st = some q ∧ Good E b q then some () else none
 have hlenA : (encS E.a.sh (P2.fst E.a.sh.dflt E.a.sh.un E.a.msh.un a)).length ≤ fn.ntmps := by
  rw [← zb, ← hAll.len, hlen]; exact nl.1 ho.2
 have hcode := zjl ht (znO hto) (n := n) (m := fn.ntmps) c ho.1.2 (R1 := Unit) (r1 := ()) (k1 := k1) hl (zjv (n := fn.ntmps) fun v hv => zel hv)
  (by rw [yi1, List.length_replicate, zb]; omega) hr (fun e st' tmps' h1 h2 h3 => ?_)
 ·have hkinds : kinds (kdown (encM E.a.msh (P2.snd E.a.msh.dflt E.a.sh.un E.a.msh.un a))) = old := (zcJ _).trans (hold _)
  have := zpy hC (drawsOK hm hC an) (n := n) hf hb (args := KV.downs (encS E.a.sh (P2.fst E.a.sh.dflt E.a.sh.un E.a.msh.un a))) (k1 := k1) (r1 := ()) (good := Good E b) (fun e st h => by
   rw [hkinds]
   show ∃ q, endA P fn old e st = some q ∧ Good E b q
   by_cases hq : ∃ q, endA P fn old e st = some q ∧ Good E b q
   ·exact hq
   ·have h : (if ∃ q, endA P fn old e st = some q ∧ Good E b q then some () else none) = some () := h
    rw [if_neg hq] at h; cases h) (by rw [hkinds, zb]; exact hcode) hM hg0 hv'
  refine this.mono fun e w' hq => ?_
  obtain ⟨q, hg, G', cv, he, hret⟩ := hq
  obtain ⟨qv, qm⟩ := q
  obtain ⟨hg1, hg2⟩ := hg
  have hg1 : qm = (resOf E b).2 := hg1
  subst hg1
  exact ⟨G', cv, he, hg2 G' w' cv hret.memR.lab hret.v, hret.ev, hret.mine, hret.prot, hret.new, hret.memR, hret.gens, hret.kept, hret.nones⟩
 ·obtain ⟨v, mm, h4, h5⟩ := zmy ht h2 h1
  have hdec : decV true E.r .ret ⟨envOf [0] [v], mm⟩ = some b := by
   split at h4
   ·rename_i b' hb'
    rw [hb', ya h4]
   ·cases h4
  obtain ⟨g1, g2⟩ := zia hoE.2 hdec
  refine if_pos ⟨_, h5, ?_, ?_⟩
  ·exact congrArg kdown g1.symm
  ·exact g2
end Go.Ab
