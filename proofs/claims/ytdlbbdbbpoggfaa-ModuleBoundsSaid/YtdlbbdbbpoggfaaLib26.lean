import Derived.Test.YtdlbbdbbpoggfaaLib25
set_option linter.unusedVariables false
set_option linter.unusedSectionVars false
set_option linter.unusedSimpArgs false
namespace Go.Ab
variable [b4]
def eA (G : Gh) (w : World) : List AV → List AV → Prop
 | [], [] => True
 | a :: as, b :: bs => (∀ cv, VR G w a cv → VR G w b cv) ∧ eA G w as bs
 | _, _ => False
theorem eA.len {G : Gh} {w : World} : ∀ {as bs : List AV}, eA G w as bs → as.length = bs.length
 | [], [], _ => rfl
 | a :: as, b :: bs, h => by simp [eA.len h.2]
 | [], _ :: _, h => h.elim
 | _ :: _, [], h => h.elim
theorem eA.get {G : Gh} {w : World} : ∀ {as bs : List AV}, eA G w as bs → ∀ {j : Nat} {y : AV}, bs[j]? = some y → ∃ x, as[j]? = some x ∧ ∀ cv, VR G w x cv → VR G w y cv
 | a :: as, b :: bs, h, 0, y, H => ⟨a, rfl, by obtain rfl := ya H; exact h.1⟩
 | a :: as, b :: bs, h, j + 1, y, H => eA.get (as := as) (bs := bs) h.2 (j := j) H
 | [], [], _, _, _, H => by cases H
 | [], _ :: _, h, _, _, _ => h.elim
 | _ :: _, [], h, _, _, _ => h.elim
theorem eA.refl {G : Gh} {w : World} : ∀ as : List AV, eA G w as as
 | [] => trivial
 | a :: as => ⟨fun _ h => h, eA.refl as⟩
theorem eA.one {G : Gh} {w : World} {a b : AV} (h : ∀ cv, VR G w a cv → VR G w b cv) : eA G w [a] [b] := ⟨h, trivial⟩
theorem Oi {G : Gh} {w : World} (H : ∀ B o, G.prot false B o → G.prot true B o) {p : PV} (hs : p.isSl = true) {cv : Value} (h : VR G w (.imm false p) cv) : VR G w (.imm true p) cv := by
 cases h with
 | imm _ _ _ h _ => exact .imm true p cv (h.mono H fun _ _ _ => rfl) hs
 | dead => cases hs
theorem OQ {G : Gh} {w : World} (I : ∀ B o, G.prot false B o → G.prot true B o) {p : PV} {c : Nat} {cv : Value} (h : VR G w (.el false p c) cv) : VR G w (.el true p c) cv := by
 cases h with
 | el _ _ _ B o f h hr => exact .el true p c B o f (fun j y H => ⟨(h j y H).1, I _ _ (h j y H).2⟩) fun j y H => (hr j y H).mono I fun _ _ _ => rfl
theorem NX {G : Gh} {w : World} {β ag : Bool} {T : Ty} {cv : Value} (h : VR G w (.lit (.slice none 0 0)) cv) : VR G w (.imm β (dN ag T [])) cv := by
 cases h with
 | lit _ _ =>
  refine .imm β _ _ ?_ (p5 ag T [])
  cases H : aY ag T with
  | true =>
   obtain ⟨rfl, k, rfl⟩ := aK.1 H
   exact .intsNil k _
  | false => rw [bX H]; exact .slNil _ _
theorem lA.all {G : Gh} {w : World} (M : ∀ B o, G.prot false B o → G.prot true B o) : ∀ {s : Sh} {vs : List AV} {x : s.den}, s.okL = true → lA s vs x → eA G w vs (KV.downs (c9 s x))
 | .int k, vs, x, H, h => by
  have h : vs = [.lit (.int k x)] := h
  subst h; exact eA.refl _
 | .bool, vs, x, H, h => by
  have h : vs = [.lit (.bool x)] := h
  subst h; exact eA.refl _
 | .str, vs, x, H, h => by
  have h : vs = [.lit (.string x)] := h
  subst h; exact eA.refl _
 | .nilS, vs, x, H, h => by
  have h : vs = [.lit (.slice none 0 0)] := h
  subst h; exact eA.refl _
 | .nilP, vs, x, H, h => by
  have h : vs = [.lit (.pointer none)] := h
  subst h; exact eA.refl _
 | .undef, vs, x, H, h => by
  have h : vs = [.lit (.tuple #[])] := h
  subst h; exact eA.refl _
 | .sl β ag T, vs, x, H, h => by
  rcases h with ⟨β', Z, rfl⟩ | ⟨rfl, hx⟩
  ·refine eA.one fun cv J => ?_
   show VR G w (.imm β (dN ag T x)) cv
   cases β' with
   | true => rw [Z rfl]; exact J
   | false =>
    cases β with
    | false => exact J
    | true => exact Oi M (p5 ag T x) J
  ·refine eA.one fun cv J => ?_
   have hx : x = ([] : List (den T)) := hx
   subst hx
   exact NX J
 | .el β ag T c, vs, x, H, h => by
  obtain ⟨β', Z, rfl⟩ := h
  refine eA.one fun cv J => ?_
  show VR G w (.el β (cT ag T x) c) cv
  cases β' with
  | true => rw [Z rfl]; exact J
  | false =>
   cases β with
   | false => exact J
   | true => exact OQ M J
 | .ptr b g i c, vs, x, H, h => by
  have h : vs = [.ptr b g i c] := h
  subst h; exact eA.refl _
 | .ptrI b g c, vs, x, H, h => by
  have h : vs = [.ptr b g x c] := h
  subst h; exact eA.refl _
 | .ms b g, vs, x, H, h => by
  have h : vs = [.ms b g (Prod.fst x) (Prod.snd x)] := h
  subst h; exact eA.refl _
 | .msw b g, vs, x, H, h => by
  have h : vs = [.msw b g] := h
  subst h; exact eA.refl _
 | .fn f fi ca, vs, x, H, h => by
  have I : (fi.okL && ca.okL) = true := H
  rw [yb] at I
  obtain ⟨fi', ca', rfl, N, h2⟩ := h
  refine eA.one fun cv J => ?_
  have K := lA.all (w := w) M I.1 N
  have Y := lA.all (w := w) M I.2 h2
  cases J with
  | fn _ _ _ fv cv W e2 V hc =>
   refine .fn _ _ _ fv cv (K.len.symm.trans W) (Y.len.symm.trans e2) (fun j y O => ?_) (fun j y O => ?_)
   ·obtain ⟨z, U, h⟩ := K.get O
    exact h _ (V j z U)
   ·obtain ⟨z, U, h⟩ := Y.get O
    exact h _ (hc j z U)
 | .agg l, vs, x, H, h => by
  obtain ⟨cs, rfl, N⟩ := h
  refine eA.one fun cv J => ?_
  have K := lA.all (w := w) (s := l) M H N
  cases J with
  | agg _ cvs W V =>
   refine .agg _ cvs (K.len.symm.trans W) fun j y O => ?_
   obtain ⟨z, U, h⟩ := K.get O
   exact h _ (V j z U)
 | .tup l, vs, x, H, h => by
  obtain ⟨cs, rfl, N⟩ := h
  refine eA.one fun cv J => ?_
  have K := lA.all (w := w) (s := l) M H N
  cases J with
  | tup _ cvs W V =>
   refine .tup _ cvs (K.len.symm.trans W) fun j y O => ?_
   obtain ⟨z, U, h⟩ := K.get O
   exact h _ (V j z U)
 | .nil, vs, x, H, h => by
  have h : vs = [] := h
  subst h; trivial
 | .cons a b, vs, x, H, h => by
  have I : (a.one && a.okL && b.okL) = true := H
  simp only [yb] at I
  obtain ⟨v, r, rfl, N, h2⟩ := h
  obtain ⟨u, hu⟩ := HM I.1.1 (P2.fst a.dflt a.un b.un x)
  have K := lA.all (w := w) M I.1.2 N
  have Y := lA.all (w := w) M I.2 h2
  rw [hu] at K
  show eA G w (v :: r) (KV.downs (c9 a (P2.fst a.dflt a.un b.un x) ++ c9 b (P2.snd b.dflt a.un b.un x)))
  rw [hu]
  exact ⟨K.1, Y⟩
 | .bnone, vs, x, H, h => h.elim
 | .bts _ _ _ _ _, vs, x, H, h => h.elim
 | .bcells _ _ _ _, vs, x, H, h => h.elim
theorem eA.vrs {G : Gh} {w : World} {as bs : List AV} (h : eA G w as bs) {vs : Array Value} (H : nC G w as vs) : nC G w bs vs :=
 ⟨h.len.symm.trans H.1, fun j y I => by
  obtain ⟨x, J, K⟩ := h.get I
  exact K _ (H.2 j x J)⟩
def Mo (E : aC) (as : List AV) (m : aH) (a : E.a.den) : Prop :=
 as.length = E.a.slots.length ∧ lA E.a.sh as (P2.fst E.a.sh.dflt E.a.sh.un E.a.msh.un a) ∧ m = aB (e8 E.a.msh (P2.snd E.a.msh.dflt E.a.sh.un E.a.msh.un a))
noncomputable def AW (E : aC) (b : eO E.r) : AV × aH := (((wW E.r b).2.env 0).down, aB (wW E.r b).2.mem)
def Fa : List Nat → Bool
 | [0] => true
 | _ => false
def J5 (E : aC) : Bool := E.a.sh.okL && E.a.msh.okM && dQ E.a.slots && E.r.all fun s => s.sh.okL && Fa s.slots
theorem Mo.unique {E : aC} (H : J5 E = true) {as : List AV} {m : aH} {a I : E.a.den} (h : Mo E as m a) (J : Mo E as m I) : a = I := by
 simp only [J5, yb] at H
 exact P2.ext (lA.unique h.2.1 J.2.1) (Do H.1.1.2 (h.2.2.symm.trans J.2.2))
open Classical in
noncomputable def Kn : List aC → List AV → aH → Option (AV × aH)
 | [], _, _ => none
 | E :: r, as, m => if h : ∃ a, Mo E as m a then (E.sh (Classical.choose h)).map (AW E) else Kn r as m
noncomputable def PG (tbl : FuncId → List aC) : bQ := fun g as m => Kn (tbl g) as m
theorem E6 {env H : Nat → KV} : ∀ {I : List Nat}, (∀ s ∈ I, env s = H s) → jF env I = jF H I
 | [], _ => rfl
 | s :: I, h => by
  show env s :: jF env I = H s :: jF H I
  rw [h s (ym ..), E6 fun t ht => h t (yh _ ht)]
theorem Gv : ∀ {H : List Nat} {vs : List KV}, dQ H = true → vs.length = H.length → jF (dR H vs) H = vs
 | [], [], _, _ => rfl
 | [], _ :: _, _, h => by cases h
 | _ :: _, [], _, h => by cases h
 | s :: H, v :: vs, hn, J => by
  have I : (!(eZ s H) && dQ H) = true := hn
  simp only [yb, yq] at I
  have K := Gv I.2 (Nat.succ.inj J)
  show (bif Nat.beq s s then v else dR H vs s) :: jF (dR (s :: H) (v :: vs)) H = v :: vs
  rw [yp3]
  congr 1
  rw [← K]
  refine Eq.trans (E6 fun t ht => ?_) rfl
  show (bif Nat.beq t s then v else dR H (jF (dR H vs) H) t) = dR H vs t
  have : Nat.beq t s = false := by
   cases M : Nat.beq t s with
   | true => rw [← nb.1 M, jW.2 ht] at I; cases I.1
   | false => rfl
  rw [this, K]; rfl
theorem Mo.of_dec {E : aC} (J : J5 E = true) {args : List KV} {mem : aD} {a : E.a.den} (H : args.length = E.a.slots.length) (h : nH true E.a ⟨dR E.a.slots args, mem⟩ = some a) :
  Mo E (KV.downs args) (aB mem) a := by
 simp only [J5, yb] at J
 unfold nH at h
 split at h <;> try contradiction
 rename_i x I
 split at h <;> try contradiction
 rename_i y M
 have K := ya h
 rw [Gv J.1.2 H] at I
 have N := P2.fst_mk' K
 have O := P2.snd_mk' K
 refine ⟨by rw [aG]; exact H, ?_, ?_⟩
 ·exact (congrArg (lA E.a.sh (KV.downs args)) N).mpr (nP I)
 ·exact (congrArg aB (At M)).trans (congrArg (fun u => aB (e8 E.a.msh u)) O.symm)
theorem JD {R : Type} {r : R} {g : FuncId} {args : List KV} {mem : aD} {k : KV → aD → Option R} : ∀ {l : List aC}, (l.all J5) = true → OL (aP R) g args mem k l = some r →
  ∃ v m, Kn l (KV.downs args) (aB mem) = some (v.down, aB m) ∧ k v m = some r
 | [], _, h => by cases h
 | E :: l, J, h => by
  rw [yh3, yb] at J
  have H : (bif jQ E.a.sh args && Ch E.a.msh mem then
   (match nH true E.a ⟨dR E.a.slots args, mem⟩ with
   | some a => bif Nat.beq args.length E.a.slots.length then (E.sh a).bind fun b => IV (aP R) E.r b fun _ st => k (st.env 0) st.mem else none
   | none => none)
  else OL (aP R) g args mem k l) = some r := h
  cases N : jQ E.a.sh args && Ch E.a.msh mem with
  | true =>
   rw [N] at H
   simp only [yl] at H
   split at H <;> try contradiction
   rename_i a O
   obtain ⟨I, H⟩ := bR.1 H
   obtain ⟨b, V, H⟩ := yd2.1 H
   have U := vZ H
   have M := Mo.of_dec J.1 (nb.1 I) O
   refine ⟨_, _, ?_, U⟩
   have K : ∃ a, Mo E (KV.downs args) (aB mem) a := ⟨a, M⟩
   unfold Kn
   rw [dif_pos K, (Classical.choose_spec K).unique J.1 M, V]
   rfl
  | false =>
   rw [N] at H
   simp only [yk] at H
   obtain ⟨v, m, W, U⟩ := JD J.2 H
   refine ⟨v, m, ?_, U⟩
   unfold Kn
   rw [dif_neg]
   ·exact W
   ·rintro ⟨a, O⟩
    have o := J.1
    simp only [J5, yb] at o
    rw [lW O.2.1, Di o.1.1.2 O.2.2] at N
    cases N
theorem Hw {tbl : FuncId → List aC} (H : ∀ g, (tbl g).all J5 = true) : Eh (PG tbl) tbl := fun h => JD (H _) h
def qS (P : Program) (f : FuncId) (E : aC) : Prop := ∀ a b, E.sh a = some b → ∀ G w as m vargs, Mo E as m a → aF G w m → (∀ (j : Nat) (x : a9), m[j]? = some (some x) → x.gen = 0) → nC G w as vargs →
 (callFunc f vargs).run P w = .ok (.enter f vargs) w ∧ Calls P f vargs w fun e w' => ∃ G' cv, e = .returned cv ∧ Oe G w m (AW E b) G' w' cv
theorem JU {as : List AV} {m : aH} {r : AV × aH} : ∀ {l : List aC}, Kn l as m = some r → ∃ E ∈ l, ∃ a b, Mo E as m a ∧ E.sh a = some b ∧ r = AW E b
 | [], h => by cases h
 | E :: l, h => by
  unfold Kn at h
  split at h
  ·rename_i H
   obtain ⟨b, J, hr⟩ := yc.1 h
   exact ⟨E, ym .., _, b, Classical.choose_spec H, J, hr.symm⟩
  ·obtain ⟨I, hE, h⟩ := JU h
   exact ⟨I, yh _ hE, h⟩
theorem yW {P : Program} {tbl : FuncId → List aC} (h : ∀ g, ∀ E ∈ tbl g, qS P g E) : jN P (PG tbl) := by
 intro g as m r hr G w H hM M K
 obtain ⟨E, hE, a, b, I, J, rfl⟩ := JU hr
 exact h g E hE a b J G w as m H I hM M K
end Go.Ab
