import Derived.Test.YtmoldheenagboaaLib24
set_option linter.unusedVariables false
set_option linter.unusedSectionVars false
set_option linter.unusedSimpArgs false
namespace Go.Ab
variable [b8]
def cY (G : Gh) (w : World) : List AV → List AV → Prop
 | [], [] => True
 | a :: as, b :: bs => (∀ cv, VR G w a cv → VR G w b cv) ∧ cY G w as bs
 | _, _ => False
theorem cY.len {G : Gh} {w : World} : ∀ {as bs : List AV}, cY G w as bs → as.length = bs.length
 | [], [], _ => rfl
 | a :: as, b :: bs, h => by simp [cY.len h.2]
 | [], _ :: _, h => h.elim
 | _ :: _, [], h => h.elim
theorem cY.get {G : Gh} {w : World} : ∀ {as bs : List AV}, cY G w as bs → ∀ {j : Nat} {y : AV}, bs[j]? = some y → ∃ x, as[j]? = some x ∧ ∀ cv, VR G w x cv → VR G w y cv
 | a :: as, b :: bs, h, 0, y, z => ⟨a, rfl, by obtain rfl := ya z; exact h.1⟩
 | a :: as, b :: bs, h, j + 1, y, z => cY.get (as := as) (bs := bs) h.2 (j := j) z
 | [], [], _, _, _, z => by cases z
 | [], _ :: _, h, _, _, _ => h.elim
 | _ :: _, [], h, _, _, _ => h.elim
theorem cY.refl {G : Gh} {w : World} : ∀ as : List AV, cY G w as as
 | [] => trivial
 | a :: as => ⟨fun _ h => h, cY.refl as⟩
theorem cY.one {G : Gh} {w : World} {a b : AV} (h : ∀ cv, VR G w a cv → VR G w b cv) : cY G w [a] [b] := ⟨h, trivial⟩
theorem J7 {G : Gh} {w : World} (H : ∀ B o, G.prot false B o → G.prot true B o) {p : PV} (z : p.isSl = true) {cv : Value} (h : VR G w (.imm false p) cv) : VR G w (.imm true p) cv := by
 cases h with
 | imm _ _ _ h _ => exact .imm true p cv (h.mono H fun _ _ _ => rfl) z
 | dead => cases z
theorem LB {G : Gh} {w : World} (H : ∀ B o, G.prot false B o → G.prot true B o) {p : PV} {c : Nat} {cv : Value} (h : VR G w (.el false p c) cv) : VR G w (.el true p c) cv := by
 cases h with
 | el _ _ _ B o f h J => exact .el true p c B o f (fun j y z => ⟨(h j y z).1, H _ _ (h j y z).2⟩) fun j y z => (J j y z).mono H fun _ _ _ => rfl
theorem KX {G : Gh} {w : World} {β ag : Bool} {T : Ty} {cv : Value} (h : VR G w (.lit (.slice none 0 0)) cv) : VR G w (.imm β (gF ag T [])) cv := by
 cases h with
 | lit _ _ =>
  refine .imm β _ _ ?_ (nJ ag T [])
  cases z : bP ag T with
  | true =>
   obtain ⟨rfl, k, rfl⟩ := aT.1 z
   exact .intsNil k _
  | false => rw [dB z]; exact .slNil _ _
theorem kE.all {G : Gh} {w : World} (O : ∀ B o, G.prot false B o → G.prot true B o) : ∀ {s : Sh} {vs : List AV} {x : s.den}, s.okL = true → kE s vs x → cY G w vs (KV.downs (dG s x))
 | .int k, vs, x, H, h => by
  have h : vs = [.lit (.int k x)] := h
  subst h; exact cY.refl _
 | .bool, vs, x, H, h => by
  have h : vs = [.lit (.bool x)] := h
  subst h; exact cY.refl _
 | .str, vs, x, H, h => by
  have h : vs = [.lit (.string x)] := h
  subst h; exact cY.refl _
 | .nilS, vs, x, H, h => by
  have h : vs = [.lit (.slice none 0 0)] := h
  subst h; exact cY.refl _
 | .nilP, vs, x, H, h => by
  have h : vs = [.lit (.pointer none)] := h
  subst h; exact cY.refl _
 | .undef, vs, x, H, h => by
  have h : vs = [.lit (.tuple #[])] := h
  subst h; exact cY.refl _
 | .sl β ag T, vs, x, H, h => by
  rcases h with ⟨β', hb, rfl⟩ | ⟨rfl, hx⟩
  ·refine cY.one fun cv K => ?_
   show VR G w (.imm β (gF ag T x)) cv
   cases β' with
   | true => rw [hb rfl]; exact K
   | false =>
    cases β with
    | false => exact K
    | true => exact J7 O (nJ ag T x) K
  ·refine cY.one fun cv K => ?_
   have hx : x = ([] : List (den T)) := hx
   subst hx
   exact KX K
 | .el β ag T c, vs, x, H, h => by
  obtain ⟨β', hb, rfl⟩ := h
  refine cY.one fun cv K => ?_
  show VR G w (.el β (eF ag T x) c) cv
  cases β' with
  | true => rw [hb rfl]; exact K
  | false =>
   cases β with
   | false => exact K
   | true => exact LB O K
 | .ptr b g i c, vs, x, H, h => by
  have h : vs = [.ptr b g i c] := h
  subst h; exact cY.refl _
 | .ptrI b g c, vs, x, H, h => by
  have h : vs = [.ptr b g x c] := h
  subst h; exact cY.refl _
 | .ms b g, vs, x, H, h => by
  have h : vs = [.ms b g (Prod.fst x) (Prod.snd x)] := h
  subst h; exact cY.refl _
 | .msw b g, vs, x, H, h => by
  have h : vs = [.msw b g] := h
  subst h; exact cY.refl _
 | .fn f fi ca, vs, x, H, h => by
  have J : (fi.okL && ca.okL) = true := H
  rw [yc] at J
  obtain ⟨fi', ca', rfl, U, h2⟩ := h
  refine cY.one fun cv K => ?_
  have N := kE.all (w := w) O J.1 U
  have a2 := kE.all (w := w) O J.2 h2
  cases K with
  | fn _ _ _ fv cv Z e2 Y hc =>
   refine .fn _ _ _ fv cv (N.len.symm.trans Z) (a2.len.symm.trans e2) (fun j y V => ?_) (fun j y V => ?_)
   ·obtain ⟨z, W, h⟩ := N.get V
    exact h _ (Y j z W)
   ·obtain ⟨z, W, h⟩ := a2.get V
    exact h _ (hc j z W)
 | .agg l, vs, x, H, h => by
  obtain ⟨cs, rfl, U⟩ := h
  refine cY.one fun cv K => ?_
  have N := kE.all (w := w) (s := l) O H U
  cases K with
  | agg _ cvs Z Y =>
   refine .agg _ cvs (N.len.symm.trans Z) fun j y V => ?_
   obtain ⟨z, W, h⟩ := N.get V
   exact h _ (Y j z W)
 | .tup l, vs, x, H, h => by
  obtain ⟨cs, rfl, U⟩ := h
  refine cY.one fun cv K => ?_
  have N := kE.all (w := w) (s := l) O H U
  cases K with
  | tup _ cvs Z Y =>
   refine .tup _ cvs (N.len.symm.trans Z) fun j y V => ?_
   obtain ⟨z, W, h⟩ := N.get V
   exact h _ (Y j z W)
 | .nil, vs, x, H, h => by
  have h : vs = [] := h
  subst h; trivial
 | .cons a b, vs, x, H, h => by
  have J : (a.one && a.okL && b.okL) = true := H
  simp only [yc] at J
  obtain ⟨v, r, rfl, U, h2⟩ := h
  obtain ⟨u, hu⟩ := IT J.1.1 (P2.fst a.dflt a.un b.un x)
  have N := kE.all (w := w) O J.1.2 U
  have a2 := kE.all (w := w) O J.2 h2
  rw [hu] at N
  show cY G w (v :: r) (KV.downs (dG a (P2.fst a.dflt a.un b.un x) ++ dG b (P2.snd b.dflt a.un b.un x)))
  rw [hu]
  exact ⟨N.1, a2⟩
 | .bnone, vs, x, H, h => h.elim
 | .bts _ _ _ _ _, vs, x, H, h => h.elim
 | .bcells _ _ _ _, vs, x, H, h => h.elim
theorem cY.vrs {G : Gh} {w : World} {as bs : List AV} (h : cY G w as bs) {vs : Array Value} (z : nE G w as vs) : nE G w bs vs :=
 ⟨h.len.symm.trans z.1, fun j y H => by
  obtain ⟨x, K, J⟩ := h.get H
  exact J _ (z.2 j x K)⟩
def Jq (E : aD) (as : List AV) (m : aW) (a : E.a.den) : Prop :=
 as.length = E.a.slots.length ∧ kE E.a.sh as (P2.fst E.a.sh.dflt E.a.sh.un E.a.msh.un a) ∧ m = aB (eH E.a.msh (P2.snd E.a.msh.dflt E.a.sh.un E.a.msh.un a))
noncomputable def wD (E : aD) (b : eU E.r) : AV × aW := (((rE E.r b).2.env 0).down, aB (rE E.r b).2.mem)
def B8 : List Nat → Bool
 | [0] => true
 | _ => false
def FU (E : aD) : Bool := E.a.sh.okL && E.a.msh.okM && cW E.a.slots && E.r.all fun s => s.sh.okL && B8 s.slots
theorem Jq.unique {E : aD} (J : FU E = true) {as : List AV} {m : aW} {a H : E.a.den} (h : Jq E as m a) (z : Jq E as m H) : a = H := by
 simp only [FU, yc] at J
 exact P2.ext (kE.unique h.2.1 z.2.1) (Cn J.1.1.2 (h.2.2.symm.trans z.2.2))
open Classical in
noncomputable def HY : List aD → List AV → aW → Option (AV × aW)
 | [], _, _ => none
 | E :: r, as, m => if h : ∃ a, Jq E as m a then (E.sh (Classical.choose h)).map (wD E) else HY r as m
noncomputable def MJ (tbl : FuncId → List aD) : bZ := fun g as m => HY (tbl g) as m
theorem BD {env z : Nat → KV} : ∀ {H : List Nat}, (∀ s ∈ H, env s = z s) → iD env H = iD z H
 | [], _ => rfl
 | s :: H, h => by
  show env s :: iD env H = z s :: iD z H
  rw [h s (ym ..), BD fun t J => h t (yi _ J)]
theorem Ds : ∀ {z : List Nat} {vs : List KV}, cW z = true → vs.length = z.length → iD (cX z vs) z = vs
 | [], [], _, _ => rfl
 | [], _ :: _, _, h => by cases h
 | _ :: _, [], _, h => by cases h
 | s :: z, v :: vs, N, J => by
  have H : (!(f7 s z) && cW z) = true := N
  simp only [yc, yz] at H
  have K := Ds H.2 (Nat.succ.inj J)
  show (bif Nat.beq s s then v else cX z vs s) :: iD (cX (s :: z) (v :: vs)) z = v :: vs
  rw [ym3]
  congr 1
  rw [← K]
  refine Eq.trans (BD fun t O => ?_) rfl
  show (bif Nat.beq t s then v else cX z (iD (cX z vs) z) t) = cX z vs t
  have : Nat.beq t s = false := by
   cases U : Nat.beq t s with
   | true => rw [← nb.1 U, m5.2 O] at H; cases H.1
   | false => rfl
  rw [this, K]; rfl
theorem Jq.of_dec {E : aD} (K : FU E = true) {args : List KV} {mem : aO} {a : E.a.den} (z : args.length = E.a.slots.length) (h : lE true E.a ⟨cX E.a.slots args, mem⟩ = some a) :
  Jq E (KV.downs args) (aB mem) a := by
 simp only [FU, yc] at K
 unfold lE at h
 split at h <;> try contradiction
 rename_i x H
 split at h <;> try contradiction
 rename_i y N
 have J := ya h
 rw [Ds K.1.2 z] at H
 have U := P2.fst_mk' J
 have O := P2.snd_mk' J
 refine ⟨by rw [aK]; exact z, ?_, ?_⟩
 ·exact (congrArg (kE E.a.sh (KV.downs args)) U).mpr (lG H)
 ·exact (congrArg aB (wG N)).trans (congrArg (fun u => aB (eH E.a.msh u)) O.symm)
theorem FO {R : Type} {r : R} {g : FuncId} {args : List KV} {mem : aO} {k : KV → aO → Option R} : ∀ {l : List aD}, (l.all FU) = true → Ly (aL R) g args mem k l = some r →
  ∃ v m, HY l (KV.downs args) (aB mem) = some (v.down, aB m) ∧ k v m = some r
 | [], _, h => by cases h
 | E :: l, J, h => by
  rw [yk3, yc] at J
  have z : (bif j1 E.a.sh args && z5 E.a.msh mem then
   (match lE true E.a ⟨cX E.a.slots args, mem⟩ with
   | some a => bif Nat.beq args.length E.a.slots.length then (E.sh a).bind fun b => GL (aL R) E.r b fun _ st => k (st.env 0) st.mem else none
   | none => none)
  else Ly (aL R) g args mem k l) = some r := h
  cases U : j1 E.a.sh args && z5 E.a.msh mem with
  | true =>
   rw [U] at z
   simp only [yg] at z
   split at z <;> try contradiction
   rename_i a O
   obtain ⟨K, z⟩ := cK.1 z
   obtain ⟨b, Y, z⟩ := yz1.1 z
   have V := rC z
   have H := Jq.of_dec J.1 (nb.1 K) O
   refine ⟨_, _, ?_, V⟩
   have N : ∃ a, Jq E (KV.downs args) (aB mem) a := ⟨a, H⟩
   unfold HY
   rw [dif_pos N, (Classical.choose_spec N).unique J.1 H, Y]
   rfl
  | false =>
   rw [U] at z
   simp only [yh] at z
   obtain ⟨v, m, W, V⟩ := FO J.2 z
   refine ⟨v, m, ?_, V⟩
   unfold HY
   rw [dif_neg]
   ·exact W
   ·rintro ⟨a, O⟩
    have o := J.1
    simp only [FU, yc] at o
    rw [lL O.2.1, Bq o.1.1.2 O.2.2] at U
    cases U
theorem Fk {tbl : FuncId → List aD} (z : ∀ g, (tbl g).all FU = true) : Dh (MJ tbl) tbl := fun h => FO (z _) h
def nQ (P : Program) (f : FuncId) (E : aD) : Prop := ∀ a b, E.sh a = some b → ∀ G w as m vargs, Jq E as m a → aQ G w m → (∀ (j : Nat) (x : c7), m[j]? = some (some x) → x.gen = 0) → nE G w as vargs →
 (callFunc f vargs).run P w = .ok (.enter f vargs) w ∧ Calls P f vargs w fun e w' => ∃ G' cv, e = .returned cv ∧ Ld G w m (wD E b) G' w' cv
theorem Hh {as : List AV} {m : aW} {r : AV × aW} : ∀ {l : List aD}, HY l as m = some r → ∃ E ∈ l, ∃ a b, Jq E as m a ∧ E.sh a = some b ∧ r = wD E b
 | [], h => by cases h
 | E :: l, h => by
  unfold HY at h
  split at h
  ·rename_i z
   obtain ⟨b, N, H⟩ := yd.1 h
   exact ⟨E, ym .., _, b, Classical.choose_spec z, N, H.symm⟩
  ·obtain ⟨J, K, h⟩ := Hh h
   exact ⟨J, yi _ K, h⟩
theorem sT {P : Program} {tbl : FuncId → List aD} (h : ∀ g, ∀ E ∈ tbl g, nQ P g E) : g9 P (MJ tbl) := by
 intro g as m r J G w z N O U
 obtain ⟨E, K, a, b, H, V, rfl⟩ := Hh J
 exact h g E K a b V G w as m z H N O U
end Go.Ab
