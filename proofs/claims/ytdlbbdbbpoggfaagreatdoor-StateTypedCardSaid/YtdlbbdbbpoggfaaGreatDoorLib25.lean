import Derived.Test.YtdlbbdbbpoggfaaGreatDoorLib24
set_option linter.unusedVariables false
set_option linter.unusedSectionVars false
set_option linter.unusedSimpArgs false
namespace Go.Ab
variable [cD]
def dQ (G : Gh) (w : World) : List AV → List AV → Prop
 | [], [] => True
 | a :: as, b :: bs => (∀ cv, VR G w a cv → VR G w b cv) ∧ dQ G w as bs
 | _, _ => False
theorem dQ.len {G : Gh} {w : World} : ∀ {as bs : List AV}, dQ G w as bs → as.length = bs.length
 | [], [], _ => rfl
 | a :: as, b :: bs, h => by simp [dQ.len h.2]
 | [], _ :: _, h => h.elim
 | _ :: _, [], h => h.elim
theorem dQ.get {G : Gh} {w : World} : ∀ {as bs : List AV}, dQ G w as bs → ∀ {j : Nat} {y : AV}, bs[j]? = some y → ∃ x, as[j]? = some x ∧ ∀ cv, VR G w x cv → VR G w y cv
 | a :: as, b :: bs, h, 0, y, z => ⟨a, rfl, by obtain rfl := yb z; exact h.1⟩
 | a :: as, b :: bs, h, j + 1, y, z => dQ.get (as := as) (bs := bs) h.2 (j := j) z
 | [], [], _, _, _, z => by cases z
 | [], _ :: _, h, _, _, _ => h.elim
 | _ :: _, [], h, _, _, _ => h.elim
theorem dQ.refl {G : Gh} {w : World} : ∀ as : List AV, dQ G w as as
 | [] => trivial
 | a :: as => ⟨fun _ h => h, dQ.refl as⟩
theorem dQ.one {G : Gh} {w : World} {a b : AV} (h : ∀ cv, VR G w a cv → VR G w b cv) : dQ G w [a] [b] := ⟨h, trivial⟩
theorem Mx {G : Gh} {w : World} (hl : ∀ B o, G.prot false B o → G.prot true B o) {p : PV} (z : p.isSl = true) {cv : Value} (h : VR G w (.imm false p) cv) : VR G w (.imm true p) cv := by
 cases h with
 | imm _ _ _ h _ => exact .imm true p cv (h.mono hl fun _ _ _ => rfl) z
 | dead => cases z
theorem OD {G : Gh} {w : World} (hl : ∀ B o, G.prot false B o → G.prot true B o) {p : PV} {c : Nat} {cv : Value} (h : VR G w (.el false p c) cv) : VR G w (.el true p c) cv := by
 cases h with
 | el _ _ _ B o f h A => exact .el true p c B o f (fun j y z => ⟨(h j y z).1, hl _ _ (h j y z).2⟩) fun j y z => (A j y z).mono hl fun _ _ _ => rfl
theorem Nl {G : Gh} {w : World} {β ag : Bool} {T : Ty} {cv : Value} (h : VR G w (.lit (.slice none 0 0)) cv) : VR G w (.imm β (iH ag T [])) cv := by
 cases h with
 | lit _ _ =>
  refine .imm β _ _ ?_ (pL ag T [])
  cases z : bT ag T with
  | true =>
   obtain ⟨rfl, k, rfl⟩ := aX.1 z
   exact .intsNil k _
  | false => rw [d6 z]; exact .slNil _ _
theorem l9.all {G : Gh} {w : World} (hl : ∀ B o, G.prot false B o → G.prot true B o) : ∀ {s : Sh} {vs : List AV} {x : s.den}, s.okL = true → l9 s vs x → dQ G w vs (KV.downs (eX s x))
 | .int k, vs, x, A, h => by
  have h : vs = [.lit (.int k x)] := h
  subst h; exact dQ.refl _
 | .bool, vs, x, A, h => by
  have h : vs = [.lit (.bool x)] := h
  subst h; exact dQ.refl _
 | .str, vs, x, A, h => by
  have h : vs = [.lit (.string x)] := h
  subst h; exact dQ.refl _
 | .nilS, vs, x, A, h => by
  have h : vs = [.lit (.slice none 0 0)] := h
  subst h; exact dQ.refl _
 | .nilP, vs, x, A, h => by
  have h : vs = [.lit (.pointer none)] := h
  subst h; exact dQ.refl _
 | .undef, vs, x, A, h => by
  have h : vs = [.lit (.tuple #[])] := h
  subst h; exact dQ.refl _
 | .sl β ag T, vs, x, A, h => by
  rcases h with ⟨β', V, rfl⟩ | ⟨rfl, hx⟩
  ·refine dQ.one fun cv J => ?_
   show VR G w (.imm β (iH ag T x)) cv
   cases β' with
   | true => rw [V rfl]; exact J
   | false =>
    cases β with
    | false => exact J
    | true => exact Mx hl (pL ag T x) J
  ·refine dQ.one fun cv J => ?_
   have hx : x = ([] : List (den T)) := hx
   subst hx
   exact Nl J
 | .el β ag T c, vs, x, A, h => by
  obtain ⟨β', V, rfl⟩ := h
  refine dQ.one fun cv J => ?_
  show VR G w (.el β (fI ag T x) c) cv
  cases β' with
  | true => rw [V rfl]; exact J
  | false =>
   cases β with
   | false => exact J
   | true => exact OD hl J
 | .ptr b g i c, vs, x, A, h => by
  have h : vs = [.ptr b g i c] := h
  subst h; exact dQ.refl _
 | .ptrI b g c, vs, x, A, h => by
  have h : vs = [.ptr b g x c] := h
  subst h; exact dQ.refl _
 | .ms b g, vs, x, A, h => by
  have h : vs = [.ms b g (Prod.fst x) (Prod.snd x)] := h
  subst h; exact dQ.refl _
 | .msw b g, vs, x, A, h => by
  have h : vs = [.msw b g] := h
  subst h; exact dQ.refl _
 | .fn f Y ca, vs, x, A, h => by
  have H : (Y.okL && ca.okL) = true := A
  rw [yc] at H
  obtain ⟨fi', Z, rfl, h1, h2⟩ := h
  refine dQ.one fun cv J => ?_
  have K := l9.all (w := w) hl H.1 h1
  have U := l9.all (w := w) hl H.2 h2
  cases J with
  | fn _ _ _ fv cv O e2 hf hc =>
   refine .fn _ _ _ fv cv (K.len.symm.trans O) (U.len.symm.trans e2) (fun j y N => ?_) (fun j y N => ?_)
   ·obtain ⟨z, M, h⟩ := K.get N
    exact h _ (hf j z M)
   ·obtain ⟨z, M, h⟩ := U.get N
    exact h _ (hc j z M)
 | .agg l, vs, x, A, h => by
  obtain ⟨cs, rfl, h1⟩ := h
  refine dQ.one fun cv J => ?_
  have K := l9.all (w := w) (s := l) hl A h1
  cases J with
  | agg _ cvs O hf =>
   refine .agg _ cvs (K.len.symm.trans O) fun j y N => ?_
   obtain ⟨z, M, h⟩ := K.get N
   exact h _ (hf j z M)
 | .tup l, vs, x, A, h => by
  obtain ⟨cs, rfl, h1⟩ := h
  refine dQ.one fun cv J => ?_
  have K := l9.all (w := w) (s := l) hl A h1
  cases J with
  | tup _ cvs O hf =>
   refine .tup _ cvs (K.len.symm.trans O) fun j y N => ?_
   obtain ⟨z, M, h⟩ := K.get N
   exact h _ (hf j z M)
 | .nil, vs, x, A, h => by
  have h : vs = [] := h
  subst h; trivial
 | .cons a b, vs, x, A, h => by
  have H : (a.one && a.okL && b.okL) = true := A
  simp only [yc] at H
  obtain ⟨v, r, rfl, h1, h2⟩ := h
  obtain ⟨u, W⟩ := KQ H.1.1 (P2.fst a.dflt a.un b.un x)
  have K := l9.all (w := w) hl H.1.2 h1
  have U := l9.all (w := w) hl H.2 h2
  rw [W] at K
  show dQ G w (v :: r) (KV.downs (eX a (P2.fst a.dflt a.un b.un x) ++ eX b (P2.snd b.dflt a.un b.un x)))
  rw [W]
  exact ⟨K.1, U⟩
 | .bnone, vs, x, A, h => h.elim
 | .bts _ _ _ _ _, vs, x, A, h => h.elim
 | .bcells _ _ _ _, vs, x, A, h => h.elim
theorem dQ.vrs {G : Gh} {w : World} {as bs : List AV} (h : dQ G w as bs) {vs : Array Value} (z : o6 G w as vs) : o6 G w bs vs :=
 ⟨h.len.symm.trans z.1, fun j y A => by
  obtain ⟨x, hx, h1⟩ := h.get A
  exact h1 _ (z.2 j x hx)⟩
def Mu (E : aG) (as : List AV) (m : a9) (a : E.a.den) : Prop :=
 as.length = E.a.slots.length ∧ l9 E.a.sh as (P2.fst E.a.sh.dflt E.a.sh.un E.a.msh.un a) ∧ m = aF (fV E.a.msh (P2.snd E.a.msh.dflt E.a.sh.un E.a.msh.un a))
noncomputable def Ad (E : aG) (b : eP E.r) : AV × a9 := (((s9 E.r b).2.env 0).down, aF (s9 E.r b).2.mem)
def D3 : List Nat → Bool
 | [0] => true
 | _ => false
def KZ (E : aG) : Bool := E.a.sh.okL && E.a.msh.okM && dF E.a.slots && E.r.all fun s => s.sh.okL && D3 s.slots
theorem Mu.unique {E : aG} (A : KZ E = true) {as : List AV} {m : a9} {a H : E.a.den} (h : Mu E as m a) (z : Mu E as m H) : a = H := by
 simp only [KZ, yc] at A
 exact P2.ext (l9.unique h.2.1 z.2.1) (Ey A.1.1.2 (h.2.2.symm.trans z.2.2))
open Classical in
noncomputable def JT : List aG → List AV → a9 → Option (AV × a9)
 | [], _, _ => none
 | E :: r, as, m => if h : ∃ a, Mu E as m a then (E.sh (Classical.choose h)).map (Ad E) else JT r as m
noncomputable def Qf (tbl : FuncId → List aG) : bZ := fun g as m => JT (tbl g) as m
theorem Ei {env z : Nat → KV} : ∀ {A : List Nat}, (∀ s ∈ A, env s = z s) → i9 env A = i9 z A
 | [], _ => rfl
 | s :: A, h => by
  show env s :: i9 env A = z s :: i9 z A
  rw [h s (yn ..), Ei fun t ht => h t (yk _ ht)]
theorem FO : ∀ {z : List Nat} {vs : List KV}, dF z = true → vs.length = z.length → i9 (dP z vs) z = vs
 | [], [], _, _ => rfl
 | [], _ :: _, _, h => by cases h
 | _ :: _, [], _, h => by cases h
 | s :: z, v :: vs, hn, H => by
  have A : (!(gT s z) && dF z) = true := hn
  simp only [yc, yy] at A
  have J := FO A.2 (Nat.succ.inj H)
  show (bif Nat.beq s s then v else dP z vs s) :: i9 (dP (s :: z) (v :: vs)) z = v :: vs
  rw [ys3]
  congr 1
  rw [← J]
  refine Eq.trans (Ei fun t ht => ?_) rfl
  show (bif Nat.beq t s then v else dP z (i9 (dP z vs) z) t) = dP z vs t
  have : Nat.beq t s = false := by
   cases K : Nat.beq t s with
   | true => rw [← nb.1 K, oD.2 ht] at A; cases A.1
   | false => rfl
  rw [this, J]; rfl
theorem Mu.of_dec {E : aG} (H : KZ E = true) {args : List KV} {mem : aR} {a : E.a.den} (z : args.length = E.a.slots.length) (h : m7 true E.a ⟨dP E.a.slots args, mem⟩ = some a) :
  Mu E (KV.downs args) (aF mem) a := by
 simp only [KZ, yc] at H
 unfold m7 at h
 split at h <;> try contradiction
 rename_i x hx
 split at h <;> try contradiction
 rename_i y M
 have A := yb h
 rw [FO H.1.2 z] at hx
 have K := P2.fst_mk' A
 have J := P2.snd_mk' A
 refine ⟨by rw [aP]; exact z, ?_, ?_⟩
 ·exact (congrArg (l9 E.a.sh (KV.downs args)) K).mpr (m9 hx)
 ·exact (congrArg aF (zW M)).trans (congrArg (fun u => aF (fV E.a.msh u)) J.symm)
theorem H7 {R : Type} {r : R} {g : FuncId} {args : List KV} {mem : aR} {k : KV → aR → Option R} : ∀ {l : List aG}, (l.all KZ) = true → ON (bI R) g args mem k l = some r →
  ∃ v m, JT l (KV.downs args) (aF mem) = some (v.down, aF m) ∧ k v m = some r
 | [], _, h => by cases h
 | E :: l, K, h => by
  rw [ye3, yc] at K
  have z : (bif k6 E.a.sh args && Bv E.a.msh mem then
   (match m7 true E.a ⟨dP E.a.slots args, mem⟩ with
   | some a => bif Nat.beq args.length E.a.slots.length then (E.sh a).bind fun b => B3 (bI R) E.r b fun _ st => k (st.env 0) st.mem else none
   | none => none)
  else ON (bI R) g args mem k l) = some r := h
  cases hf : k6 E.a.sh args && Bv E.a.msh mem with
  | true =>
   rw [hf] at z
   simp only [yg] at z
   split at z <;> try contradiction
   rename_i a M
   obtain ⟨H, z⟩ := c9.1 z
   obtain ⟨b, N, z⟩ := yo1.1 z
   have h2 := sU z
   have J := Mu.of_dec K.1 (nb.1 H) M
   refine ⟨_, _, ?_, h2⟩
   have A : ∃ a, Mu E (KV.downs args) (aF mem) a := ⟨a, J⟩
   unfold JT
   rw [dif_pos A, (Classical.choose_spec A).unique K.1 J, N]
   rfl
  | false =>
   rw [hf] at z
   simp only [ye] at z
   obtain ⟨v, m, h1, h2⟩ := H7 K.2 z
   refine ⟨v, m, ?_, h2⟩
   unfold JT
   rw [dif_neg]
   ·exact h1
   ·rintro ⟨a, M⟩
    have o := K.1
    simp only [KZ, yc] at o
    rw [mT M.2.1, CV o.1.1.2 M.2.2] at hf
    cases hf
theorem KI {z : FuncId → List aG} (A : ∀ g, (z g).all KZ = true) : Fx (Qf z) z := fun h => H7 (A _) h
def sY (P : Program) (f : FuncId) (E : aG) : Prop := ∀ a b, E.sh a = some b → ∀ G w as m vargs, Mu E as m a → aT G w m → (∀ (j : Nat) (x : d8), m[j]? = some (some x) → x.gen = 0) → o6 G w as vargs →
 (callFunc f vargs).run P w = .ok (.enter f vargs) w ∧ Calls P f vargs w fun e w' => ∃ G' cv, e = .returned cv ∧ Pb G w m (Ad E b) G' w' cv
theorem HS {as : List AV} {m : a9} {r : AV × a9} : ∀ {l : List aG}, JT l as m = some r → ∃ E ∈ l, ∃ a b, Mu E as m a ∧ E.sh a = some b ∧ r = Ad E b
 | [], h => by cases h
 | E :: l, h => by
  unfold JT at h
  split at h
  ·rename_i z
   obtain ⟨b, A, H⟩ := yf.1 h
   exact ⟨E, yn .., _, b, Classical.choose_spec z, A, H.symm⟩
  ·obtain ⟨J, hE, h⟩ := HS h
   exact ⟨J, yk _ hE, h⟩
theorem Dr {P : Program} {A : FuncId → List aG} (h : ∀ g, ∀ E ∈ A g, sY P g E) : jC P (Qf A) := by
 intro g as m r J G w z hM N K
 obtain ⟨E, hE, a, b, H, M, rfl⟩ := HS J
 exact h g E hE a b M G w as m z H hM N K
end Go.Ab
