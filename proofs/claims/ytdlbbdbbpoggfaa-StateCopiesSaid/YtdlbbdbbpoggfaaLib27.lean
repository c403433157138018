import Derived.Test.YtdlbbdbbpoggfaaLib26
set_option linter.unusedVariables false
set_option linter.unusedSectionVars false
set_option linter.unusedSimpArgs false
namespace Go.Ab
variable [GTab]
def AllLe (G : Gh) (w : World) : List AV → List AV → Prop
 | [], [] => True
 | a :: as, b :: bs => (∀ cv, VR G w a cv → VR G w b cv) ∧ AllLe G w as bs
 | _, _ => False
theorem AllLe.len {G : Gh} {w : World} : ∀ {as bs : List AV}, AllLe G w as bs → as.length = bs.length
 | [], [], _ => rfl
 | a :: as, b :: bs, h => by simp [AllLe.len h.2]
 | [], _ :: _, h => h.elim
 | _ :: _, [], h => h.elim
theorem AllLe.get {G : Gh} {w : World} : ∀ {as bs : List AV}, AllLe G w as bs → ∀ {j : Nat} {y : AV}, bs[j]? = some y → ∃ x, as[j]? = some x ∧ ∀ cv, VR G w x cv → VR G w y cv
 | a :: as, b :: bs, h, 0, y, hy => ⟨a, rfl, by obtain rfl := ya hy; exact h.1⟩
 | a :: as, b :: bs, h, j + 1, y, hy => AllLe.get (as := as) (bs := bs) h.2 (j := j) hy
 | [], [], _, _, _, hy => by cases hy
 | [], _ :: _, h, _, _, _ => h.elim
 | _ :: _, [], h, _, _, _ => h.elim
theorem AllLe.refl {G : Gh} {w : World} : ∀ as : List AV, AllLe G w as as
 | [] => trivial
 | a :: as => ⟨fun _ h => h, AllLe.refl as⟩
theorem AllLe.one {G : Gh} {w : World} {a b : AV} (h : ∀ cv, VR G w a cv → VR G w b cv) : AllLe G w [a] [b] := ⟨h, trivial⟩
theorem zpx {G : Gh} {w : World} (hl : ∀ B o, G.prot false B o → G.prot true B o) {p : PV} (hs : p.isSl = true) {cv : Value} (h : VR G w (.imm false p) cv) : VR G w (.imm true p) cv := by
 cases h with
 | imm _ _ _ h _ => exact .imm true p cv (h.mono hl fun _ _ _ => rfl) hs
 | dead => cases hs
theorem zqn {G : Gh} {w : World} (hl : ∀ B o, G.prot false B o → G.prot true B o) {p : PV} {c : Nat} {cv : Value} (h : VR G w (.el false p c) cv) : VR G w (.el true p c) cv := by
 cases h with
 | el _ _ _ B o f h hr => exact .el true p c B o f (fun j y hy => ⟨(h j y hy).1, hl _ _ (h j y hy).2⟩) fun j y hy => (hr j y hy).mono hl fun _ _ _ => rfl
theorem zpk {G : Gh} {w : World} {β ag : Bool} {T : Ty} {cv : Value} (h : VR G w (.lit (.slice none 0 0)) cv) : VR G w (.imm β (pvSl ag T [])) cv := by
 cases h with
 | lit _ _ =>
  refine .imm β _ _ ?_ (zcU ag T [])
  cases hi : isIntsK ag T with
  | true =>
   obtain ⟨rfl, k, rfl⟩ := zc.1 hi
   exact .intsNil k _
  | false => rw [zo hi]; exact .slNil _ _
theorem LeS.all {G : Gh} {w : World} (hl : ∀ B o, G.prot false B o → G.prot true B o) : ∀ {s : Sh} {vs : List AV} {x : s.den}, s.okL = true → LeS s vs x → AllLe G w vs (KV.downs (encS s x))
 | .int k, vs, x, ho, h => by
  have h : vs = [.lit (.int k x)] := h
  subst h; exact AllLe.refl _
 | .bool, vs, x, ho, h => by
  have h : vs = [.lit (.bool x)] := h
  subst h; exact AllLe.refl _
 | .str, vs, x, ho, h => by
  have h : vs = [.lit (.string x)] := h
  subst h; exact AllLe.refl _
 | .nilS, vs, x, ho, h => by
  have h : vs = [.lit (.slice none 0 0)] := h
  subst h; exact AllLe.refl _
 | .nilP, vs, x, ho, h => by
  have h : vs = [.lit (.pointer none)] := h
  subst h; exact AllLe.refl _
 | .undef, vs, x, ho, h => by
  have h : vs = [.lit (.tuple #[])] := h
  subst h; exact AllLe.refl _
 | .sl β ag T, vs, x, ho, h => by
  rcases h with ⟨β', hb, rfl⟩ | ⟨rfl, hx⟩
  ·refine AllLe.one fun cv hv => ?_
   show VR G w (.imm β (pvSl ag T x)) cv
   cases β' with
   | true => rw [hb rfl]; exact hv
   | false =>
    cases β with
    | false => exact hv
    | true => exact zpx hl (zcU ag T x) hv
  ·refine AllLe.one fun cv hv => ?_
   have hx : x = ([] : List (den T)) := hx
   subst hx
   exact zpk hv
 | .el β ag T c, vs, x, ho, h => by
  obtain ⟨β', hb, rfl⟩ := h
  refine AllLe.one fun cv hv => ?_
  show VR G w (.el β (pvEl ag T x) c) cv
  cases β' with
  | true => rw [hb rfl]; exact hv
  | false =>
   cases β with
   | false => exact hv
   | true => exact zqn hl hv
 | .ptr b g i c, vs, x, ho, h => by
  have h : vs = [.ptr b g i c] := h
  subst h; exact AllLe.refl _
 | .ptrI b g c, vs, x, ho, h => by
  have h : vs = [.ptr b g x c] := h
  subst h; exact AllLe.refl _
 | .ms b g, vs, x, ho, h => by
  have h : vs = [.ms b g (Prod.fst x) (Prod.snd x)] := h
  subst h; exact AllLe.refl _
 | .msw b g, vs, x, ho, h => by
  have h : vs = [.msw b g] := h
  subst h; exact AllLe.refl _
 | .fn f fi ca, vs, x, ho, h => by
  have ho' : (fi.okL && ca.okL) = true := ho
  rw [yb] at ho'
  obtain ⟨fi', ca', rfl, h1, h2⟩ := h
  refine AllLe.one fun cv hv => ?_
  have a1 := LeS.all (w := w) hl ho'.1 h1
  have a2 := LeS.all (w := w) hl ho'.2 h2
  cases hv with
  | fn _ _ _ fv cv e1 e2 hf hc =>
   refine .fn _ _ _ fv cv (a1.len.symm.trans e1) (a2.len.symm.trans e2) (fun j y hy => ?_) (fun j y hy => ?_)
   ·obtain ⟨z, hz, h⟩ := a1.get hy
    exact h _ (hf j z hz)
   ·obtain ⟨z, hz, h⟩ := a2.get hy
    exact h _ (hc j z hz)
 | .agg l, vs, x, ho, h => by
  obtain ⟨cs, rfl, h1⟩ := h
  refine AllLe.one fun cv hv => ?_
  have a1 := LeS.all (w := w) (s := l) hl ho h1
  cases hv with
  | agg _ cvs e1 hf =>
   refine .agg _ cvs (a1.len.symm.trans e1) fun j y hy => ?_
   obtain ⟨z, hz, h⟩ := a1.get hy
   exact h _ (hf j z hz)
 | .tup l, vs, x, ho, h => by
  obtain ⟨cs, rfl, h1⟩ := h
  refine AllLe.one fun cv hv => ?_
  have a1 := LeS.all (w := w) (s := l) hl ho h1
  cases hv with
  | tup _ cvs e1 hf =>
   refine .tup _ cvs (a1.len.symm.trans e1) fun j y hy => ?_
   obtain ⟨z, hz, h⟩ := a1.get hy
   exact h _ (hf j z hz)
 | .nil, vs, x, ho, h => by
  have h : vs = [] := h
  subst h; trivial
 | .cons a b, vs, x, ho, h => by
  have ho' : (a.one && a.okL && b.okL) = true := ho
  simp only [yb] at ho'
  obtain ⟨v, r, rfl, h1, h2⟩ := h
  obtain ⟨u, hu⟩ := zkL ho'.1.1 (P2.fst a.dflt a.un b.un x)
  have a1 := LeS.all (w := w) hl ho'.1.2 h1
  have a2 := LeS.all (w := w) hl ho'.2 h2
  rw [hu] at a1
  show AllLe G w (v :: r) (KV.downs (encS a (P2.fst a.dflt a.un b.un x) ++ encS b (P2.snd b.dflt a.un b.un x)))
  rw [hu]
  exact ⟨a1.1, a2⟩
 | .bnone, vs, x, ho, h => h.elim
 | .bts _ _ _ _ _, vs, x, ho, h => h.elim
 | .bcells _ _ _ _, vs, x, ho, h => h.elim
theorem AllLe.vrs {G : Gh} {w : World} {as bs : List AV} (h : AllLe G w as bs) {vs : Array Value} (hv : VRs G w as vs) : VRs G w bs vs :=
 ⟨h.len.symm.trans hv.1, fun j y hy => by
  obtain ⟨x, hx, h1⟩ := h.get hy
  exact h1 _ (hv.2 j x hx)⟩
def LeE (E : Entry) (as : List AV) (m : Mem) (a : E.a.den) : Prop :=
 as.length = E.a.slots.length ∧ LeS E.a.sh as (P2.fst E.a.sh.dflt E.a.sh.un E.a.msh.un a) ∧ m = kdown (encM E.a.msh (P2.snd E.a.msh.dflt E.a.sh.un E.a.msh.un a))
noncomputable def resOf (E : Entry) (b : VDen E.r) : AV × Mem := (((outP E.r b).2.env 0).down, kdown (outP E.r b).2.mem)
def isZero : List Nat → Bool
 | [0] => true
 | _ => false
def okE (E : Entry) : Bool := E.a.sh.okL && E.a.msh.okM && nodupN E.a.slots && E.r.all fun s => s.sh.okL && isZero s.slots
theorem LeE.unique {E : Entry} (ho : okE E = true) {as : List AV} {m : Mem} {a a' : E.a.den} (h : LeE E as m a) (h' : LeE E as m a') : a = a' := by
 simp only [okE, yb] at ho
 exact P2.ext (LeS.unique h.2.1 h'.2.1) (ziZ ho.1.1.2 (h.2.2.symm.trans h'.2.2))
open Classical in
noncomputable def ansC : List Entry → List AV → Mem → Option (AV × Mem)
 | [], _, _ => none
 | E :: r, as, m => if h : ∃ a, LeE E as m a then (E.sh (Classical.choose h)).map (resOf E) else ansC r as m
noncomputable def tblC (tbl : FuncId → List Entry) : Oracle := fun g as m => ansC (tbl g) as m
theorem ziP {env env' : Nat → KV} : ∀ {ss : List Nat}, (∀ s ∈ ss, env s = env' s) → envsAt env ss = envsAt env' ss
 | [], _ => rfl
 | s :: ss, h => by
  show env s :: envsAt env ss = env' s :: envsAt env' ss
  rw [h s (yn ..), ziP fun t ht => h t (yi _ ht)]
theorem zjO : ∀ {ss : List Nat} {vs : List KV}, nodupN ss = true → vs.length = ss.length → envsAt (envOf ss vs) ss = vs
 | [], [], _, _ => rfl
 | [], _ :: _, _, h => by cases h
 | _ :: _, [], _, h => by cases h
 | s :: ss, v :: vs, hn, hlen => by
  have hn' : (!(memN s ss) && nodupN ss) = true := hn
  simp only [yb, yt] at hn'
  have ih := zjO hn'.2 (Nat.succ.inj hlen)
  show (bif Nat.beq s s then v else envOf ss vs s) :: envsAt (envOf (s :: ss) (v :: vs)) ss = v :: vs
  rw [yq2]
  congr 1
  rw [← ih]
  refine Eq.trans (ziP fun t ht => ?_) rfl
  show (bif Nat.beq t s then v else envOf ss (envsAt (envOf ss vs) ss) t) = envOf ss vs t
  have : Nat.beq t s = false := by
   cases hb : Nat.beq t s with
   | true => rw [← nb.1 hb, zba.2 ht] at hn'; cases hn'.1
   | false => rfl
  rw [this, ih]; rfl
theorem LeE.of_dec {E : Entry} (ho : okE E = true) {args : List KV} {mem : KMem} {a : E.a.den} (hlen : args.length = E.a.slots.length) (h : decSt true E.a ⟨envOf E.a.slots args, mem⟩ = some a) :
  LeE E (KV.downs args) (kdown mem) a := by
 simp only [okE, yb] at ho
 unfold decSt at h
 split at h <;> try contradiction
 rename_i x hx
 split at h <;> try contradiction
 rename_i y hy
 have hp := ya h
 rw [zjO ho.1.2 hlen] at hx
 have e1 := P2.fst_mk' hp
 have e2 := P2.snd_mk' hp
 refine ⟨by rw [zb]; exact hlen, ?_, ?_⟩
 ·exact (congrArg (LeS E.a.sh (KV.downs args)) e1).mpr (zbX hx)
 ·exact (congrArg kdown (zfF hy)).trans (congrArg (fun u => kdown (encM E.a.msh u)) e2.symm)
theorem zkW {R : Type} {r : R} {g : FuncId} {args : List KV} {mem : KMem} {k : KV → KMem → Option R} : ∀ {l : List Entry}, (l.all okE) = true → askL (real R) g args mem k l = some r →
  ∃ v m, ansC l (KV.downs args) (kdown mem) = some (v.down, kdown m) ∧ k v m = some r
 | [], _, h => by cases h
 | E :: l, ho, h => by
  rw [yj3, yb] at ho
  have h' : (bif fitsK E.a.sh args && fitsM E.a.msh mem then
   (match decSt true E.a ⟨envOf E.a.slots args, mem⟩ with
   | some a => bif Nat.beq args.length E.a.slots.length then (E.sh a).bind fun b => encV (real R) E.r b fun _ st => k (st.env 0) st.mem else none
   | none => none)
  else askL (real R) g args mem k l) = some r := h
  cases hf : fitsK E.a.sh args && fitsM E.a.msh mem with
  | true =>
   rw [hf] at h'
   simp only [yg] at h'
   split at h' <;> try contradiction
   rename_i a ha
   obtain ⟨hlen, h'⟩ := cds.1 h'
   obtain ⟨b, hb, h'⟩ := yd2.1 h'
   have h2 := zej h'
   have hle := LeE.of_dec ho.1 (nb.1 hlen) ha
   refine ⟨_, _, ?_, h2⟩
   have hex : ∃ a, LeE E (KV.downs args) (kdown mem) a := ⟨a, hle⟩
   unfold ansC
   rw [dif_pos hex, (Classical.choose_spec hex).unique ho.1 hle, hb]
   rfl
  | false =>
   rw [hf] at h'
   simp only [yh] at h'
   obtain ⟨v, m, h1, h2⟩ := zkW ho.2 h'
   refine ⟨v, m, ?_, h2⟩
   unfold ansC
   rw [dif_neg]
   ·exact h1
   ·rintro ⟨a, ha⟩
    have o := ho.1
    simp only [okE, yb] at o
    rw [zbn ha.2.1, zhV o.1.1.2 ha.2.2] at hf
    cases hf
theorem znO {tbl : FuncId → List Entry} (ho : ∀ g, (tbl g).all okE = true) : AskOK (tblC tbl) tbl := fun h => zkW (ho _) h
def EntryOK (P : Program) (f : FuncId) (E : Entry) : Prop := ∀ a b, E.sh a = some b → ∀ G w as m vargs, LeE E as m a → MemR G w m → (∀ (j : Nat) (x : Box), m[j]? = some (some x) → x.gen = 0) → VRs G w as vargs →
 (callFunc f vargs).run P w = .ok (.enter f vargs) w ∧ Calls P f vargs w fun e w' => ∃ G' cv, e = .returned cv ∧ Ret G w m (resOf E b) G' w' cv
theorem zll {as : List AV} {m : Mem} {r : AV × Mem} : ∀ {l : List Entry}, ansC l as m = some r → ∃ E ∈ l, ∃ a b, LeE E as m a ∧ E.sh a = some b ∧ r = resOf E b
 | [], h => by cases h
 | E :: l, h => by
  unfold ansC at h
  split at h
  ·rename_i hex
   obtain ⟨b, hb, hr⟩ := yd.1 h
   exact ⟨E, yn .., _, b, Classical.choose_spec hex, hb, hr.symm⟩
  ·obtain ⟨E', hE, h⟩ := zll h
   exact ⟨E', yi _ hE, h⟩
theorem ziM {P : Program} {tbl : FuncId → List Entry} (h : ∀ g, ∀ E ∈ tbl g, EntryOK P g E) : OracleOK P (tblC tbl) := by
 intro g as m r hr G w vargs hM hg hv
 obtain ⟨E, hE, a, b, hle, hb, rfl⟩ := zll hr
 exact h g E hE a b hb G w as m vargs hle hM hg hv
end Go.Ab
