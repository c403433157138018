import Derived.Test.YtdlbbdbbpoggfaaGreatDoorLib24
set_option linter.unusedVariables false
set_option linter.unusedSectionVars false
set_option linter.unusedSimpArgs false
namespace Go.Ab
variable [cD]
def dO (G : Gh) (w : World) : List AV → List AV → Prop
 | [], [] => True
 | a :: as, b :: bs => (∀ cv, VR G w a cv → VR G w b cv) ∧ dO G w as bs
 | _, _ => False
theorem dO.len {G : Gh} {w : World} : ∀ {as bs : List AV}, dO G w as bs → as.length = bs.length
 | [], [], _ => rfl
 | a :: as, b :: bs, h => by simp [dO.len h.2]
 | [], _ :: _, h => h.elim
 | _ :: _, [], h => h.elim
theorem dO.get {G : Gh} {w : World} : ∀ {as bs : List AV}, dO G w as bs → ∀ {j : Nat} {y : AV}, bs[j]? = some y → ∃ x, as[j]? = some x ∧ ∀ cv, VR G w x cv → VR G w y cv
 | a :: as, b :: bs, h, 0, y, z => ⟨a, rfl, by obtain rfl := yb z; exact h.1⟩
 | a :: as, b :: bs, h, j + 1, y, z => dO.get (as := as) (bs := bs) h.2 (j := j) z
 | [], [], _, _, _, z => by cases z
 | [], _ :: _, h, _, _, _ => h.elim
 | _ :: _, [], h, _, _, _ => h.elim
theorem dO.refl {G : Gh} {w : World} : ∀ as : List AV, dO G w as as
 | [] => trivial
 | a :: as => ⟨fun _ h => h, dO.refl as⟩
theorem dO.one {G : Gh} {w : World} {a b : AV} (h : ∀ cv, VR G w a cv → VR G w b cv) : dO G w [a] [b] := ⟨h, trivial⟩
theorem Nh {G : Gh} {w : World} (hl : ∀ B o, G.prot false B o → G.prot true B o) {p : PV} (z : p.isSl = true) {cv : Value} (h : VR G w (.imm false p) cv) : VR G w (.imm true p) cv := by
 cases h with
 | imm _ _ _ h _ => exact .imm true p cv (h.mono hl fun _ _ _ => rfl) z
 | dead => cases z
theorem Og {G : Gh} {w : World} (hl : ∀ B o, G.prot false B o → G.prot true B o) {p : PV} {c : Nat} {cv : Value} (h : VR G w (.el false p c) cv) : VR G w (.el true p c) cv := by
 cases h with
 | el _ _ _ B o f h A => exact .el true p c B o f (fun j y z => ⟨(h j y z).1, hl _ _ (h j y z).2⟩) fun j y z => (A j y z).mono hl fun _ _ _ => rfl
theorem Nw {G : Gh} {w : World} {β ag : Bool} {T : Ty} {cv : Value} (h : VR G w (.lit (.slice none 0 0)) cv) : VR G w (.imm β (iB ag T [])) cv := by
 cases h with
 | lit _ _ =>
  refine .imm β _ _ ?_ (pT ag T [])
  cases z : bT ag T with
  | true =>
   obtain ⟨rfl, k, rfl⟩ := aX.1 z
   exact .intsNil k _
  | false => rw [d7 z]; exact .slNil _ _
theorem mL.all {G : Gh} {w : World} (hl : ∀ B o, G.prot false B o → G.prot true B o) : ∀ {s : Sh} {vs : List AV} {x : s.den}, s.okL = true → mL s vs x → dO G w vs (KV.downs (eY s x))
 | .int k, vs, x, A, h => by
  have h : vs = [.lit (.int k x)] := h
  subst h; exact dO.refl _
 | .bool, vs, x, A, h => by
  have h : vs = [.lit (.bool x)] := h
  subst h; exact dO.refl _
 | .str, vs, x, A, h => by
  have h : vs = [.lit (.string x)] := h
  subst h; exact dO.refl _
 | .nilS, vs, x, A, h => by
  have h : vs = [.lit (.slice none 0 0)] := h
  subst h; exact dO.refl _
 | .nilP, vs, x, A, h => by
  have h : vs = [.lit (.pointer none)] := h
  subst h; exact dO.refl _
 | .undef, vs, x, A, h => by
  have h : vs = [.lit (.tuple #[])] := h
  subst h; exact dO.refl _
 | .sl β ag T, vs, x, A, h => by
  rcases h with ⟨β', V, rfl⟩ | ⟨rfl, hx⟩
  ·refine dO.one fun cv J => ?_
   show VR G w (.imm β (iB ag T x)) cv
   cases β' with
   | true => rw [V rfl]; exact J
   | false =>
    cases β with
    | false => exact J
    | true => exact Nh hl (pT ag T x) J
  ·refine dO.one fun cv J => ?_
   have hx : x = ([] : List (den T)) := hx
   subst hx
   exact Nw J
 | .el β ag T c, vs, x, A, h => by
  obtain ⟨β', V, rfl⟩ := h
  refine dO.one fun cv J => ?_
  show VR G w (.el β (fK ag T x) c) cv
  cases β' with
  | true => rw [V rfl]; exact J
  | false =>
   cases β with
   | false => exact J
   | true => exact Og hl J
 | .ptr b g i c, vs, x, A, h => by
  have h : vs = [.ptr b g i c] := h
  subst h; exact dO.refl _
 | .ptrI b g c, vs, x, A, h => by
  have h : vs = [.ptr b g x c] := h
  subst h; exact dO.refl _
 | .ms b g, vs, x, A, h => by
  have h : vs = [.ms b g (Prod.fst x) (Prod.snd x)] := h
  subst h; exact dO.refl _
 | .msw b g, vs, x, A, h => by
  have h : vs = [.msw b g] := h
  subst h; exact dO.refl _
 | .fn f fi ca, vs, x, A, h => by
  have H : (fi.okL && ca.okL) = true := A
  rw [yc] at H
  obtain ⟨Y, ca', rfl, h1, h2⟩ := h
  refine dO.one fun cv J => ?_
  have K := mL.all (w := w) hl H.1 h1
  have U := mL.all (w := w) hl H.2 h2
  cases J with
  | fn _ _ _ Z cv O e2 hf hc =>
   refine .fn _ _ _ Z cv (K.len.symm.trans O) (U.len.symm.trans e2) (fun j y M => ?_) (fun j y M => ?_)
   ·obtain ⟨z, N, h⟩ := K.get M
    exact h _ (hf j z N)
   ·obtain ⟨z, N, h⟩ := U.get M
    exact h _ (hc j z N)
 | .agg l, vs, x, A, h => by
  obtain ⟨cs, rfl, h1⟩ := h
  refine dO.one fun cv J => ?_
  have K := mL.all (w := w) (s := l) hl A h1
  cases J with
  | agg _ cvs O hf =>
   refine .agg _ cvs (K.len.symm.trans O) fun j y M => ?_
   obtain ⟨z, N, h⟩ := K.get M
   exact h _ (hf j z N)
 | .tup l, vs, x, A, h => by
  obtain ⟨cs, rfl, h1⟩ := h
  refine dO.one fun cv J => ?_
  have K := mL.all (w := w) (s := l) hl A h1
  cases J with
  | tup _ cvs O hf =>
   refine .tup _ cvs (K.len.symm.trans O) fun j y M => ?_
   obtain ⟨z, N, h⟩ := K.get M
   exact h _ (hf j z N)
 | .nil, vs, x, A, h => by
  have h : vs = [] := h
  subst h; trivial
 | .cons a b, vs, x, A, h => by
  have H : (a.one && a.okL && b.okL) = true := A
  simp only [yc] at H
  obtain ⟨v, r, rfl, h1, h2⟩ := h
  obtain ⟨u, W⟩ := KB H.1.1 (P2.fst a.dflt a.un b.un x)
  have K := mL.all (w := w) hl H.1.2 h1
  have U := mL.all (w := w) hl H.2 h2
  rw [W] at K
  show dO G w (v :: r) (KV.downs (eY a (P2.fst a.dflt a.un b.un x) ++ eY b (P2.snd b.dflt a.un b.un x)))
  rw [W]
  exact ⟨K.1, U⟩
 | .bnone, vs, x, A, h => h.elim
 | .bts _ _ _ _ _, vs, x, A, h => h.elim
 | .bcells _ _ _ _, vs, x, A, h => h.elim
theorem dO.vrs {G : Gh} {w : World} {as bs : List AV} (h : dO G w as bs) {vs : Array Value} (z : pX G w as vs) : pX G w bs vs :=
 ⟨h.len.symm.trans z.1, fun j y A => by
  obtain ⟨x, hx, h1⟩ := h.get A
  exact h1 _ (z.2 j x hx)⟩
def Mw (E : aG) (as : List AV) (m : a9) (a : E.a.den) : Prop :=
 as.length = E.a.slots.length ∧ mL E.a.sh as (P2.fst E.a.sh.dflt E.a.sh.un E.a.msh.un a) ∧ m = aF (fV E.a.msh (P2.snd E.a.msh.dflt E.a.sh.un E.a.msh.un a))
noncomputable def yL (E : aG) (b : eP E.r) : AV × a9 := (((s6 E.r b).2.env 0).down, aF (s6 E.r b).2.mem)
def C0 : List Nat → Bool
 | [0] => true
 | _ => false
def K3 (E : aG) : Bool := E.a.sh.okL && E.a.msh.okM && dB E.a.slots && E.r.all fun s => s.sh.okL && C0 s.slots
theorem Mw.unique {E : aG} (z : K3 E = true) {as : List AV} {m : a9} {a A : E.a.den} (h : Mw E as m a) (H : Mw E as m A) : a = A := by
 simp only [K3, yc] at z
 exact P2.ext (mL.unique h.2.1 H.2.1) (Eu z.1.1.2 (h.2.2.symm.trans H.2.2))
open Classical in
noncomputable def Jz : List aG → List AV → a9 → Option (AV × a9)
 | [], _, _ => none
 | E :: r, as, m => if h : ∃ a, Mw E as m a then (E.sh (Classical.choose h)).map (yL E) else Jz r as m
noncomputable def Qa (tbl : FuncId → List aG) : bZ := fun g as m => Jz (tbl g) as m
theorem Dr {env z : Nat → KV} : ∀ {A : List Nat}, (∀ s ∈ A, env s = z s) → iW env A = iW z A
 | [], _ => rfl
 | s :: A, h => by
  show env s :: iW env A = z s :: iW z A
  rw [h s (yn ..), Dr fun t ht => h t (yk _ ht)]
theorem FU : ∀ {z : List Nat} {vs : List KV}, dB z = true → vs.length = z.length → iW (dP z vs) z = vs
 | [], [], _, _ => rfl
 | [], _ :: _, _, h => by cases h
 | _ :: _, [], _, h => by cases h
 | s :: z, v :: vs, hn, H => by
  have A : (!(gW s z) && dB z) = true := hn
  simp only [yc, yy] at A
  have J := FU A.2 (Nat.succ.inj H)
  show (bif Nat.beq s s then v else dP z vs s) :: iW (dP (s :: z) (v :: vs)) z = v :: vs
  rw [ys3]
  congr 1
  rw [← J]
  refine Eq.trans (Dr fun t ht => ?_) rfl
  show (bif Nat.beq t s then v else dP z (iW (dP z vs) z) t) = dP z vs t
  have : Nat.beq t s = false := by
   cases K : Nat.beq t s with
   | true => rw [← nb.1 K, oD.2 ht] at A; cases A.1
   | false => rfl
  rw [this, J]; rfl
theorem Mw.of_dec {E : aG} (A : K3 E = true) {args : List KV} {mem : aR} {a : E.a.den} (z : args.length = E.a.slots.length) (h : nD true E.a ⟨dP E.a.slots args, mem⟩ = some a) :
  Mw E (KV.downs args) (aF mem) a := by
 simp only [K3, yc] at A
 unfold nD at h
 split at h <;> try contradiction
 rename_i x hx
 split at h <;> try contradiction
 rename_i y M
 have H := yb h
 rw [FU A.1.2 z] at hx
 have J := P2.fst_mk' H
 have K := P2.snd_mk' H
 refine ⟨by rw [aQ]; exact z, ?_, ?_⟩
 ·exact (congrArg (mL E.a.sh (KV.downs args)) J).mpr (nF hx)
 ·exact (congrArg aF (w8 M)).trans (congrArg (fun u => aF (fV E.a.msh u)) K.symm)
theorem Il {R : Type} {r : R} {g : FuncId} {args : List KV} {mem : aR} {k : KV → aR → Option R} : ∀ {l : List aG}, (l.all K3) = true → Of (bI R) g args mem k l = some r →
  ∃ v m, Jz l (KV.downs args) (aF mem) = some (v.down, aF m) ∧ k v m = some r
 | [], _, h => by cases h
 | E :: l, K, h => by
  rw [ye3, yc] at K
  have z : (bif k8 E.a.sh args && Bz E.a.msh mem then
   (match nD true E.a ⟨dP E.a.slots args, mem⟩ with
   | some a => bif Nat.beq args.length E.a.slots.length then (E.sh a).bind fun b => BX (bI R) E.r b fun _ st => k (st.env 0) st.mem else none
   | none => none)
  else Of (bI R) g args mem k l) = some r := h
  cases hf : k8 E.a.sh args && Bz E.a.msh mem with
  | true =>
   rw [hf] at z
   simp only [yg] at z
   split at z <;> try contradiction
   rename_i a M
   obtain ⟨A, z⟩ := c9.1 z
   obtain ⟨b, N, z⟩ := yo1.1 z
   have h2 := s2 z
   have H := Mw.of_dec K.1 (nb.1 A) M
   refine ⟨_, _, ?_, h2⟩
   have J : ∃ a, Mw E (KV.downs args) (aF mem) a := ⟨a, H⟩
   unfold Jz
   rw [dif_pos J, (Classical.choose_spec J).unique K.1 H, N]
   rfl
  | false =>
   rw [hf] at z
   simp only [ye] at z
   obtain ⟨v, m, h1, h2⟩ := Il K.2 z
   refine ⟨v, m, ?_, h2⟩
   unfold Jz
   rw [dif_neg]
   ·exact h1
   ·rintro ⟨a, M⟩
    have o := K.1
    simp only [K3, yc] at o
    rw [m9 M.2.1, Dk o.1.1.2 M.2.2] at hf
    cases hf
theorem K9 {z : FuncId → List aG} (A : ∀ g, (z g).all K3 = true) : F4 (Qa z) z := fun h => Il (A _) h
def sH (P : Program) (f : FuncId) (E : aG) : Prop := ∀ a b, E.sh a = some b → ∀ G w as m vargs, Mw E as m a → aT G w m → (∀ (j : Nat) (x : d8), m[j]? = some (some x) → x.gen = 0) → pX G w as vargs →
 (callFunc f vargs).run P w = .ok (.enter f vargs) w ∧ Calls P f vargs w fun e w' => ∃ G' cv, e = .returned cv ∧ Pa G w m (yL E b) G' w' cv
theorem H8 {as : List AV} {m : a9} {r : AV × a9} : ∀ {l : List aG}, Jz l as m = some r → ∃ E ∈ l, ∃ a b, Mw E as m a ∧ E.sh a = some b ∧ r = yL E b
 | [], h => by cases h
 | E :: l, h => by
  unfold Jz at h
  split at h
  ·rename_i z
   obtain ⟨b, H, J⟩ := yf.1 h
   exact ⟨E, yn .., _, b, Classical.choose_spec z, H, J.symm⟩
  ·obtain ⟨A, hE, h⟩ := H8 h
   exact ⟨A, yk _ hE, h⟩
theorem E0 {P : Program} {A : FuncId → List aG} (h : ∀ g, ∀ E ∈ A g, sH P g E) : iU P (Qa A) := by
 intro g as m r N G w z hM J K
 obtain ⟨E, hE, a, b, H, M, rfl⟩ := H8 N
 exact h g E hE a b M G w as m z H hM J K
end Go.Ab
