import Derived.Test.YtdlbbdbbpoggfaaLib25
set_option linter.unusedVariables false
set_option linter.unusedSectionVars false
set_option linter.unusedSimpArgs false
namespace Go.Ab
variable [b4]
def eB (G : Gh) (w : World) : List AV → List AV → Prop
 | [], [] => True
 | a :: as, b :: bs => (∀ cv, VR G w a cv → VR G w b cv) ∧ eB G w as bs
 | _, _ => False
theorem eB.len {G : Gh} {w : World} : ∀ {as bs : List AV}, eB G w as bs → as.length = bs.length
 | [], [], _ => rfl
 | a :: as, b :: bs, h => by simp [eB.len h.2]
 | [], _ :: _, h => h.elim
 | _ :: _, [], h => h.elim
theorem eB.get {G : Gh} {w : World} : ∀ {as bs : List AV}, eB G w as bs → ∀ {j : Nat} {y : AV}, bs[j]? = some y → ∃ x, as[j]? = some x ∧ ∀ cv, VR G w x cv → VR G w y cv
 | a :: as, b :: bs, h, 0, y, H => ⟨a, rfl, by obtain rfl := ya H; exact h.1⟩
 | a :: as, b :: bs, h, j + 1, y, H => eB.get (as := as) (bs := bs) h.2 (j := j) H
 | [], [], _, _, _, H => by cases H
 | [], _ :: _, h, _, _, _ => h.elim
 | _ :: _, [], h, _, _, _ => h.elim
theorem eB.refl {G : Gh} {w : World} : ∀ as : List AV, eB G w as as
 | [] => trivial
 | a :: as => ⟨fun _ h => h, eB.refl as⟩
theorem eB.one {G : Gh} {w : World} {a b : AV} (h : ∀ cv, VR G w a cv → VR G w b cv) : eB G w [a] [b] := ⟨h, trivial⟩
theorem Nk {G : Gh} {w : World} (H : ∀ B o, G.prot false B o → G.prot true B o) {p : PV} (hs : p.isSl = true) {cv : Value} (h : VR G w (.imm false p) cv) : VR G w (.imm true p) cv := by
 cases h with
 | imm _ _ _ h _ => exact .imm true p cv (h.mono H fun _ _ _ => rfl) hs
 | dead => cases hs
theorem OA {G : Gh} {w : World} (I : ∀ B o, G.prot false B o → G.prot true B o) {p : PV} {c : Nat} {cv : Value} (h : VR G w (.el false p c) cv) : VR G w (.el true p c) cv := by
 cases h with
 | el _ _ _ B o f h hr => exact .el true p c B o f (fun j y H => ⟨(h j y H).1, I _ _ (h j y H).2⟩) fun j y H => (hr j y H).mono I fun _ _ _ => rfl
theorem Oa {G : Gh} {w : World} {β ag : Bool} {T : Ty} {cv : Value} (h : VR G w (.lit (.slice none 0 0)) cv) : VR G w (.imm β (dL ag T [])) cv := by
 cases h with
 | lit _ _ =>
  refine .imm β _ _ ?_ (qX ag T [])
  cases H : aY ag T with
  | true =>
   obtain ⟨rfl, k, rfl⟩ := aK.1 H
   exact .intsNil k _
  | false => rw [bX H]; exact .slNil _ _
theorem lC.all {G : Gh} {w : World} (M : ∀ B o, G.prot false B o → G.prot true B o) : ∀ {s : Sh} {vs : List AV} {x : s.den}, s.okL = true → lC s vs x → eB G w vs (KV.downs (c9 s x))
 | .int k, vs, x, H, h => by
  have h : vs = [.lit (.int k x)] := h
  subst h; exact eB.refl _
 | .bool, vs, x, H, h => by
  have h : vs = [.lit (.bool x)] := h
  subst h; exact eB.refl _
 | .str, vs, x, H, h => by
  have h : vs = [.lit (.string x)] := h
  subst h; exact eB.refl _
 | .nilS, vs, x, H, h => by
  have h : vs = [.lit (.slice none 0 0)] := h
  subst h; exact eB.refl _
 | .nilP, vs, x, H, h => by
  have h : vs = [.lit (.pointer none)] := h
  subst h; exact eB.refl _
 | .undef, vs, x, H, h => by
  have h : vs = [.lit (.tuple #[])] := h
  subst h; exact eB.refl _
 | .sl β ag T, vs, x, H, h => by
  rcases h with ⟨β', Z, rfl⟩ | ⟨rfl, hx⟩
  ·refine eB.one fun cv J => ?_
   show VR G w (.imm β (dL ag T x)) cv
   cases β' with
   | true => rw [Z rfl]; exact J
   | false =>
    cases β with
    | false => exact J
    | true => exact Nk M (qX ag T x) J
  ·refine eB.one fun cv J => ?_
   have hx : x = ([] : List (den T)) := hx
   subst hx
   exact Oa J
 | .el β ag T c, vs, x, H, h => by
  obtain ⟨β', Z, rfl⟩ := h
  refine eB.one fun cv J => ?_
  show VR G w (.el β (cT ag T x) c) cv
  cases β' with
  | true => rw [Z rfl]; exact J
  | false =>
   cases β with
   | false => exact J
   | true => exact OA M J
 | .ptr b g i c, vs, x, H, h => by
  have h : vs = [.ptr b g i c] := h
  subst h; exact eB.refl _
 | .ptrI b g c, vs, x, H, h => by
  have h : vs = [.ptr b g x c] := h
  subst h; exact eB.refl _
 | .ms b g, vs, x, H, h => by
  have h : vs = [.ms b g (Prod.fst x) (Prod.snd x)] := h
  subst h; exact eB.refl _
 | .msw b g, vs, x, H, h => by
  have h : vs = [.msw b g] := h
  subst h; exact eB.refl _
 | .fn f fi ca, vs, x, H, h => by
  have I : (fi.okL && ca.okL) = true := H
  rw [yb] at I
  obtain ⟨fi', ca', rfl, O, h2⟩ := h
  refine eB.one fun cv J => ?_
  have K := lC.all (w := w) M I.1 O
  have Y := lC.all (w := w) M I.2 h2
  cases J with
  | fn _ _ _ fv cv W e2 V hc =>
   refine .fn _ _ _ fv cv (K.len.symm.trans W) (Y.len.symm.trans e2) (fun j y U => ?_) (fun j y U => ?_)
   ·obtain ⟨z, N, h⟩ := K.get U
    exact h _ (V j z N)
   ·obtain ⟨z, N, h⟩ := Y.get U
    exact h _ (hc j z N)
 | .agg l, vs, x, H, h => by
  obtain ⟨cs, rfl, O⟩ := h
  refine eB.one fun cv J => ?_
  have K := lC.all (w := w) (s := l) M H O
  cases J with
  | agg _ cvs W V =>
   refine .agg _ cvs (K.len.symm.trans W) fun j y U => ?_
   obtain ⟨z, N, h⟩ := K.get U
   exact h _ (V j z N)
 | .tup l, vs, x, H, h => by
  obtain ⟨cs, rfl, O⟩ := h
  refine eB.one fun cv J => ?_
  have K := lC.all (w := w) (s := l) M H O
  cases J with
  | tup _ cvs W V =>
   refine .tup _ cvs (K.len.symm.trans W) fun j y U => ?_
   obtain ⟨z, N, h⟩ := K.get U
   exact h _ (V j z N)
 | .nil, vs, x, H, h => by
  have h : vs = [] := h
  subst h; trivial
 | .cons a b, vs, x, H, h => by
  have I : (a.one && a.okL && b.okL) = true := H
  simp only [yb] at I
  obtain ⟨v, r, rfl, O, h2⟩ := h
  obtain ⟨u, hu⟩ := Ic I.1.1 (P2.fst a.dflt a.un b.un x)
  have K := lC.all (w := w) M I.1.2 O
  have Y := lC.all (w := w) M I.2 h2
  rw [hu] at K
  show eB G w (v :: r) (KV.downs (c9 a (P2.fst a.dflt a.un b.un x) ++ c9 b (P2.snd b.dflt a.un b.un x)))
  rw [hu]
  exact ⟨K.1, Y⟩
 | .bnone, vs, x, H, h => h.elim
 | .bts _ _ _ _ _, vs, x, H, h => h.elim
 | .bcells _ _ _ _, vs, x, H, h => h.elim
theorem eB.vrs {G : Gh} {w : World} {as bs : List AV} (h : eB G w as bs) {vs : Array Value} (H : m8 G w as vs) : m8 G w bs vs :=
 ⟨h.len.symm.trans H.1, fun j y K => by
  obtain ⟨x, J, I⟩ := h.get K
  exact I _ (H.2 j x J)⟩
def MC (E : aC) (as : List AV) (m : aH) (a : E.a.den) : Prop :=
 as.length = E.a.slots.length ∧ lC E.a.sh as (P2.fst E.a.sh.dflt E.a.sh.un E.a.msh.un a) ∧ m = aB (e8 E.a.msh (P2.snd E.a.msh.dflt E.a.sh.un E.a.msh.un a))
noncomputable def zZ (E : aC) (b : eN E.r) : AV × aH := (((wX E.r b).2.env 0).down, aB (wX E.r b).2.mem)
def Eu : List Nat → Bool
 | [0] => true
 | _ => false
def J7 (E : aC) : Bool := E.a.sh.okL && E.a.msh.okM && dR E.a.slots && E.r.all fun s => s.sh.okL && Eu s.slots
theorem MC.unique {E : aC} (H : J7 E = true) {as : List AV} {m : aH} {a J : E.a.den} (h : MC E as m a) (I : MC E as m J) : a = J := by
 simp only [J7, yb] at H
 exact P2.ext (lC.unique h.2.1 I.2.1) (Fp H.1.1.2 (h.2.2.symm.trans I.2.2))
open Classical in
noncomputable def KZ : List aC → List AV → aH → Option (AV × aH)
 | [], _, _ => none
 | E :: r, as, m => if h : ∃ a, MC E as m a then (E.sh (Classical.choose h)).map (zZ E) else KZ r as m
noncomputable def PP (tbl : FuncId → List aC) : bQ := fun g as m => KZ (tbl g) as m
theorem Ep {env H : Nat → KV} : ∀ {I : List Nat}, (∀ s ∈ I, env s = H s) → jE env I = jE H I
 | [], _ => rfl
 | s :: I, h => by
  show env s :: jE env I = H s :: jE H I
  rw [h s (ym ..), Ep fun t ht => h t (yh _ ht)]
theorem Gb : ∀ {H : List Nat} {vs : List KV}, dR H = true → vs.length = H.length → jE (dP H vs) H = vs
 | [], [], _, _ => rfl
 | [], _ :: _, _, h => by cases h
 | _ :: _, [], _, h => by cases h
 | s :: H, v :: vs, hn, J => by
  have I : (!(eZ s H) && dR H) = true := hn
  simp only [yb, yq] at I
  have K := Gb I.2 (Nat.succ.inj J)
  show (bif Nat.beq s s then v else dP H vs s) :: jE (dP (s :: H) (v :: vs)) H = v :: vs
  rw [yp3]
  congr 1
  rw [← K]
  refine Eq.trans (Ep fun t ht => ?_) rfl
  show (bif Nat.beq t s then v else dP H (jE (dP H vs) H) t) = dP H vs t
  have : Nat.beq t s = false := by
   cases M : Nat.beq t s with
   | true => rw [← nb.1 M, kA.2 ht] at I; cases I.1
   | false => rfl
  rw [this, K]; rfl
theorem MC.of_dec {E : aC} (I : J7 E = true) {args : List KV} {mem : aD} {a : E.a.den} (H : args.length = E.a.slots.length) (h : nL true E.a ⟨dP E.a.slots args, mem⟩ = some a) :
  MC E (KV.downs args) (aB mem) a := by
 simp only [J7, yb] at I
 unfold nL at h
 split at h <;> try contradiction
 rename_i x K
 split at h <;> try contradiction
 rename_i y M
 have J := ya h
 rw [Gb I.1.2 H] at K
 have O := P2.fst_mk' J
 have N := P2.snd_mk' J
 refine ⟨by rw [aG]; exact H, ?_, ?_⟩
 ·exact (congrArg (lC E.a.sh (KV.downs args)) O).mpr (nR K)
 ·exact (congrArg aB (Ak M)).trans (congrArg (fun u => aB (e8 E.a.msh u)) N.symm)
theorem JR {R : Type} {r : R} {g : FuncId} {args : List KV} {mem : aD} {k : KV → aD → Option R} : ∀ {l : List aC}, (l.all J7) = true → OJ (aP R) g args mem k l = some r →
  ∃ v m, KZ l (KV.downs args) (aB mem) = some (v.down, aB m) ∧ k v m = some r
 | [], _, h => by cases h
 | E :: l, I, h => by
  rw [yh3, yb] at I
  have H : (bif jR E.a.sh args && B3 E.a.msh mem then
   (match nL true E.a ⟨dP E.a.slots args, mem⟩ with
   | some a => bif Nat.beq args.length E.a.slots.length then (E.sh a).bind fun b => JB (aP R) E.r b fun _ st => k (st.env 0) st.mem else none
   | none => none)
  else OJ (aP R) g args mem k l) = some r := h
  cases N : jR E.a.sh args && B3 E.a.msh mem with
  | true =>
   rw [N] at H
   simp only [yl] at H
   split at H <;> try contradiction
   rename_i a O
   obtain ⟨J, H⟩ := bP.1 H
   obtain ⟨b, V, H⟩ := yd2.1 H
   have U := wK H
   have K := MC.of_dec I.1 (nb.1 J) O
   refine ⟨_, _, ?_, U⟩
   have M : ∃ a, MC E (KV.downs args) (aB mem) a := ⟨a, K⟩
   unfold KZ
   rw [dif_pos M, (Classical.choose_spec M).unique I.1 K, V]
   rfl
  | false =>
   rw [N] at H
   simp only [yk] at H
   obtain ⟨v, m, W, U⟩ := JR I.2 H
   refine ⟨v, m, ?_, U⟩
   unfold KZ
   rw [dif_neg]
   ·exact W
   ·rintro ⟨a, O⟩
    have o := I.1
    simp only [J7, yb] at o
    rw [lY O.2.1, Fm o.1.1.2 O.2.2] at N
    cases N
theorem HQ {tbl : FuncId → List aC} (H : ∀ g, (tbl g).all J7 = true) : Ft (PP tbl) tbl := fun h => JR (H _) h
def pL (P : Program) (f : FuncId) (E : aC) : Prop := ∀ a b, E.sh a = some b → ∀ G w as m vargs, MC E as m a → aF G w m → (∀ (j : Nat) (x : a9), m[j]? = some (some x) → x.gen = 0) → m8 G w as vargs →
 (callFunc f vargs).run P w = .ok (.enter f vargs) w ∧ Calls P f vargs w fun e w' => ∃ G' cv, e = .returned cv ∧ NY G w m (zZ E b) G' w' cv
theorem Jw {as : List AV} {m : aH} {r : AV × aH} : ∀ {l : List aC}, KZ l as m = some r → ∃ E ∈ l, ∃ a b, MC E as m a ∧ E.sh a = some b ∧ r = zZ E b
 | [], h => by cases h
 | E :: l, h => by
  unfold KZ at h
  split at h
  ·rename_i H
   obtain ⟨b, I, hr⟩ := yc.1 h
   exact ⟨E, ym .., _, b, Classical.choose_spec H, I, hr.symm⟩
  ·obtain ⟨J, hE, h⟩ := Jw h
   exact ⟨J, yh _ hE, h⟩
theorem zC {P : Program} {tbl : FuncId → List aC} (h : ∀ g, ∀ E ∈ tbl g, pL P g E) : jK P (PP tbl) := by
 intro g as m r hr G w H hM M K
 obtain ⟨E, hE, a, b, I, J, rfl⟩ := Jw hr
 exact h g E hE a b J G w as m H I hM M K
end Go.Ab
