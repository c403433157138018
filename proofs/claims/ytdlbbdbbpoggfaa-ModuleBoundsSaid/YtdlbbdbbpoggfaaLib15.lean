import Derived.Test.YtdlbbdbbpoggfaaLib14
set_option linter.unusedVariables false
set_option linter.unusedSectionVars false
set_option linter.unusedSimpArgs false
namespace Go.Ab
variable [b4]
section
variable {P : Program} {R : Type} {r : R} {mem : aD} {tab : TypeId → Option TI}
theorem bV.under_sl {t : TypeId} {H : TI} {I : TypeId} (h : bV P t H) (K : H.tk = .sl I) : P.underlying t = some (.slice I) := by
 have := h.tk
 unfold nJ at this
 rw [K] at this
 cases J : P.underlying t with
 | none => rw [J] at this; simp at this
 | some d => rw [J] at this; cases d <;> simp_all [nb]
theorem bV.under_arr {t : TypeId} {H : TI} {n : Nat} {e : TypeId} (h : bV P t H) (J : H.tk = .arr n e) : P.underlying t = some (.array n e) := by
 have := h.tk
 unfold nJ at this
 rw [J] at this
 cases I : P.underlying t with
 | none => rw [I] at this; simp at this
 | some d => rw [I] at this; cases d <;> simp_all [nb]
theorem bV.under_str {t : TypeId} {H : TI} (h : bV P t H) (J : H.tk = .str) : P.underlying t = some .string := by
 have := h.tk
 unfold nJ at this
 rw [J] at this
 cases I : P.underlying t with
 | none => rw [I] at this; simp at this
 | some d => rw [I] at this; cases d <;> simp_all
theorem bV.under_int {t : TypeId} {H : TI} {k : IntKind} (h : bV P t H) (J : H.tk = .int k) : P.underlying t = some (.int k) := by
 have := h.tk
 unfold nJ at this
 rw [J] at this
 cases I : P.underlying t with
 | none => rw [I] at this; simp at this
 | some d => rw [I] at this; cases d <;> simp_all [rW]
theorem bV.under_st {t : TypeId} {H : TI} {fs : List (Nat × Nat × TypeId)} (h : bV P t H) (J : H.tk = .st fs) : ∃ l, P.underlying t = some (.struct l) ∧ CD P fs l.toList = true := by
 have := h.tk
 unfold nJ at this
 rw [J] at this
 cases I : P.underlying t with
 | none => rw [I] at this; simp at this
 | some d => rw [I] at this; cases d <;> simp_all
theorem sY {β ag : Bool} {T : Ty} {xs : List (den T)} (h : aY ag T = false) : (KV.tsl β ag T xs).down = .imm β (.sl T.size (xs.map (cT ag T))) := by simp only [KV.down, bX h]
theorem NV {α β : Type} (f : α → β) (xs : List α) (i : Int) : eC (xs.map f) i = (eC xs i).map f := by
 unfold eC
 cases decide (0 ≤ i) <;> simp
theorem Kg {t H : TypeId} {m : aH} {β : Bool} {I : IntKind} {xs : List Int} {i v : Int} (J : P.underlying t = some (.slice H)) (hn : iR P H = some 1) (K : eC xs i = some v) :
  gX P t m (.imm β (.ints I xs)) i = some { v := .el β (.lit (.int I v)) 0 } := by simp [gX, J, hn, K, guardB]
theorem KF {t H : TypeId} {m : aH} {β : Bool} {M : IntKind} {xs : List Int} {I J K : Option Int} {b : Nat × Nat} (O : P.underlying t = some (.slice H)) (hn : iR P H = some 1) (N : fU xs.length I J K = some b) :
  fV P t m (.imm β (.ints M xs)) I J K = some { v := .imm β (.ints M ((xs.take b.2).drop b.1)) } := by simp [fV, O, hn, N, guardB]
theorem Ln (ht : bI P tab) {t : TypeId} {x : KV} {i : Int} {k : aZ → Option R} (h : KW (aP R) tab t mem x i k = some r) : ∃ out, k out = some r ∧ gX P t (aB mem) x.down i = some out.down := by
 unfold KW at h
 split at h
 ·rename_i ti U
  have M := bV.of (ht _ _ U)
  split at h
  ·rename_i et O
   have K := M.under_sl O
   split at h
   ·rename_i te J
    have H := bV.of (ht _ _ J)
    split at h
    ·rename_i β ag T xs
     rw [bP] at h
     obtain ⟨hn, h⟩ := h
     have hn := nb.1 hn
     simp only [real_get] at h
     rw [C3] at h
     obtain ⟨v, Z, h⟩ := h
     refine ⟨_, h, ?_⟩
     cases Y : aY ag T with
     | true =>
      obtain ⟨rfl, kk, rfl⟩ := aK.1 Y
      have V : te.n = 1 := hn
      show gX P t (aB mem) (.imm β (.ints kk xs)) i = _
      have W : eC (xs : List Int) i = some v := Z
      exact Kg K (by rw [H.n, V]) W
     | false =>
      rw [sY Y]
      simp only [gX, K, H.n, ye, d9, hn, NV, Z, yg]
      exact ⟨nb.2 rfl, rfl⟩
    ·rename_i b g o n
     obtain ⟨N, I, h⟩ := cQ h
     rw [bP] at h
     obtain ⟨hn, h⟩ := h
     simp only [real_guard] at h
     rw [bP] at h
     refine ⟨_, h.2, ?_⟩
     simp only [gX, KV.down, K, H.n, ye, I, show N.down.row = N.row.down from rfl, yJ, d9, hn, h.1, yl3]
     exact ⟨by simp, rfl⟩
    ·rename_i b g
     obtain ⟨N, I, h⟩ := cQ h
     rw [bP] at h
     obtain ⟨hn, h⟩ := h
     simp only [real_guard] at h
     rw [bP] at h
     refine ⟨_, h.2, ?_⟩
     simp only [gX, KV.down, K, H.n, ye, I, show N.down.row = N.row.down from rfl, yJ, qQ, d9, hn, h.1, yl3]
     exact ⟨by simp, rfl⟩
    ·cases h
   ·cases h
  ·rename_i n e O
   have K := M.under_arr O
   split at h
   ·rename_i te J
    have H := bV.of (ht _ _ J)
    split at h
    ·rename_i b g j c
     simp only [real_guard] at h
     rw [bP] at h
     refine ⟨_, h.2, ?_⟩
     simp only [gX, KV.down, K, H.n, ye, d9]
     exact ⟨h.1, rfl⟩
    ·cases h
   ·cases h
  ·cases h
 ·cases h
theorem KE (ht : bI P tab) {t : TypeId} {x : KV} {lo W mx : Option Int} {k : aZ → Option R} (h : KQ (aP R) tab t mem x lo W mx k = some r) :
  ∃ out, k out = some r ∧ fV P t (aB mem) x.down lo W mx = some out.down := by
 unfold KQ at h
 split at h
 ·rename_i ti hti
  have M := bV.of (ht _ _ hti)
  split at h
  ·rename_i Y
   have J := M.under_str Y
   split at h
   ·rename_i s
    rw [bP] at h
    obtain ⟨hm, h⟩ := h
    obtain ⟨b, hb, h⟩ := fE h
    exact ⟨_, h, by simp only [fV, KV.down, J, d9, hm, hb, yg]; exact ⟨trivial, rfl⟩⟩
   ·cases h
  ·rename_i et Y
   have J := M.under_sl Y
   split at h
   ·rename_i te N
    have H := bV.of (ht _ _ N)
    split at h
    ·rename_i β ag T xs
     rw [bP] at h
     obtain ⟨hn, h⟩ := h
     have hn := nb.1 hn
     obtain ⟨b, hb, h⟩ := fE h
     refine ⟨_, h, ?_⟩
     cases W : aY ag T with
     | true =>
      obtain ⟨rfl, kk, rfl⟩ := aK.1 W
      have V : te.n = 1 := hn
      show fV P t (aB mem) (.imm β (.ints kk xs)) lo _ mx = _
      have hb' : fU (xs : List Int).length lo _ mx = some b := hb
      exact KF J (by rw [H.n, V]) hb'
     | false =>
      rw [sY W]
      simp only [fV, J, H.n, ye, d9, hn, ye1, hb, yg]
      exact ⟨nb.2 rfl, by simp [aZ.down, f8, sY W, aB, yz2, yn3]⟩
    ·rename_i b g o n
     obtain ⟨K, I, h⟩ := cQ h
     rw [bP] at h
     obtain ⟨hn, h⟩ := h
     obtain ⟨q, O, h⟩ := fE h
     refine ⟨_, h, ?_⟩
     simp only [fV, KV.down, J, H.n, ye, I, show K.down.row = K.row.down from rfl, yJ, d9, hn, O, yg]
     exact ⟨trivial, rfl⟩
    ·rename_i b g
     obtain ⟨K, I, h⟩ := cQ h
     rw [bP] at h
     obtain ⟨hn, h⟩ := h
     obtain ⟨q, O, h⟩ := fE h
     refine ⟨_, h, ?_⟩
     simp only [fV, KV.down, J, H.n, ye, I, show K.down.row = K.row.down from rfl, yJ, qQ, d9, hn, O, yg]
     exact ⟨trivial, rfl⟩
    ·obtain ⟨q, O, h⟩ := fE h
     refine ⟨_, h, ?_⟩
     simp only [fV, KV.down, J, H.n, ye, O, yg]; rfl
    ·cases h
   ·cases h
  ·rename_i n e Y
   have J := M.under_arr Y
   split at h
   ·rename_i te N
    have H := bV.of (ht _ _ N)
    split at h
    ·rename_i b g i c
     rw [bP] at h
     obtain ⟨hg, h⟩ := h
     simp only [yb] at hg
     obtain rfl := nb.1 hg.1
     have V := nb.1 hg.2
     obtain ⟨K, I, h⟩ := cQ h
     split at h
     ·rename_i e' cs Z
      rw [bP] at h
      obtain ⟨U, h⟩ := h
      simp only [yb] at U
      obtain rfl := nb.1 U.1
      obtain ⟨q, O, h⟩ := fE h
      refine ⟨_, h, ?_⟩
      have hd : K.down.row = .cells 1 (KV.downs cs) := by rw [show K.down.row = K.row.down from rfl, Z]; rfl
      simp only [fV, KV.down, J, H.n, ye, V, d9, I, hd, aG, U.2, O, yg]
      exact ⟨rfl, trivial, rfl⟩
     ·cases h
    ·cases h
   ·cases h
  ·cases h
 ·cases h
theorem A2 (cs : List KV) (i : Nat) (v : KV) : KV.downs (cs.set i v) = (KV.downs cs).set i v.down := by simp [cZ, List.map_set]
theorem sK : ∀ (vs : List KV) (cs : List KV) (i : Nat), KV.downs (c5 cs i vs) = setCells (KV.downs cs) i (KV.downs vs)
 | [], cs, i => rfl
 | v :: vs, cs, i => by simp only [c5, KV.downs, setCells, sK vs, d5, A2]
def dF (β : Bool) (cs : List KV) (qs : List PV) : Prop := cs.length = qs.length ∧ ∀ (j : Nat) (v : KV), cs[j]? = some v → ∃ q, qs[j]? = some q ∧ j4 β v q
theorem dF.of (β : Bool) (T : Ty) (x : den T) : dF β (cellsOf β T x) (aM T x) := ⟨by rw [jN.1, bR], jN.2⟩
theorem dF.set {β : Bool} {cs : List KV} {qs : List PV} (h : dF β cs qs) {v : KV} {q : PV} (M : j4 β v q) (i : Nat) : dF β (cs.set i v) (qs.set i q) := by
 refine ⟨by simp [h.1], fun j w H => ?_⟩
 by_cases e : j = i
 ·subst e
  have I : j < cs.length := by have := (yd.1 H).1; simpa using this
  rw [yw I] at H
  obtain rfl := ya H
  exact ⟨q, yw (by rw [← h.1]; exact I), M⟩
 ·rw [yp (fun x => e x.symm)] at H
  obtain ⟨p, J, K⟩ := h.2 j w H
  exact ⟨p, by rw [yp (fun x => e x.symm)]; exact J, K⟩
theorem dF.setRow {β : Bool} : ∀ {vs : List KV} {ps : List PV} {cs : List KV} {qs : List PV} (i : Nat), dF β vs ps → dF β cs qs → dF β (c5 cs i vs) (n5 qs i ps)
 | [], [], cs, qs, i, _, h => h
 | [], p :: ps, cs, qs, i, H, h => by cases H.1
 | v :: vs, [], cs, qs, i, H, h => by cases H.1
 | v :: vs, p :: ps, cs, qs, i, H, h => by
  obtain ⟨q, I, K⟩ := H.2 0 v rfl
  obtain rfl := ya I
  simp only [c5, n5, d5]
  exact dF.setRow (i + 1) ⟨by simpa using H.1, fun j w J => by simpa using H.2 (j + 1) w (by simpa using J)⟩ (h.set K i)
theorem dF.take {β : Bool} {cs : List KV} {qs : List PV} (h : dF β cs qs) (n : Nat) : dF β (cs.take n) (qs.take n) := by
 refine ⟨by simp [h.1], fun j v H => ?_⟩
 rw [yj1] at H
 split at H
 ·rename_i I
  obtain ⟨q, J, K⟩ := h.2 j v H
  exact ⟨q, by rw [yj1, if_pos I]; exact J, K⟩
 ·cases H
theorem dF.drop {β : Bool} {cs : List KV} {qs : List PV} (h : dF β cs qs) (n : Nat) : dF β (cs.drop n) (qs.drop n) := by
 refine ⟨by simp [h.1], fun j v H => ?_⟩
 rw [yz] at H ⊢
 exact h.2 _ v H
theorem kQ : ∀ {T : Ty} {cs : List KV} {qs : List PV} {K : den T → Bool → List Nat → Option R}, dF false cs qs → eV (aP R) mem T cs K = some r → ∃ z β l, K z β l = some r ∧ aM T z = qs
 | .int k, cs, qs, K, H, h => by
  simp only [eV] at h
  split at h
  ·rename_i k' x
   rw [bP] at h
   obtain ⟨q, J, I⟩ := H.2 0 _ rfl
   obtain ⟨M, rfl⟩ := ye2.1 H.1.symm
   obtain rfl := ya J
   refine ⟨x, _, _, h.2, ?_⟩
   obtain rfl := rW.1 h.1
   rcases I with ⟨_, _, e, rfl⟩ | ⟨_, e, _⟩ | ⟨_, e, _⟩ | ⟨_, _, _, e, _⟩ <;> cases e
   rfl
  ·cases h
 | .bool, cs, qs, K, H, h => by
  simp only [eV] at h
  split at h
  ·rename_i x
   obtain ⟨q, J, I⟩ := H.2 0 _ rfl
   obtain ⟨M, rfl⟩ := ye2.1 H.1.symm
   obtain rfl := ya J
   refine ⟨x, _, _, h, ?_⟩
   rcases I with ⟨_, _, e, _⟩ | ⟨_, e, rfl⟩ | ⟨_, e, _⟩ | ⟨_, _, _, e, _⟩ <;> cases e
   rfl
  ·cases h
 | .str, cs, qs, K, H, h => by
  simp only [eV] at h
  split at h
  ·rename_i x
   obtain ⟨q, J, I⟩ := H.2 0 _ rfl
   obtain ⟨M, rfl⟩ := ye2.1 H.1.symm
   obtain rfl := ya J
   refine ⟨x, _, _, h, ?_⟩
   rcases I with ⟨_, _, e, _⟩ | ⟨_, e, _⟩ | ⟨_, e, rfl⟩ | ⟨_, _, _, e, _⟩ <;> cases e
   rfl
  ·cases h
 | .sl ag T, cs, qs, K, H, h => by
  simp only [eV] at h
  split at h
  ·rename_i β O T' xs
   rw [bP] at h
   obtain ⟨U, h⟩ := h
   obtain rfl := Ip.1 U
   split at h
   ·rename_i ys N
    obtain ⟨rfl, rfl⟩ := dW N
    obtain ⟨q, J, I⟩ := H.2 0 _ rfl
    obtain ⟨M, rfl⟩ := ye2.1 H.1.symm
    obtain rfl := ya J
    refine ⟨xs, _, _, h, ?_⟩
    rcases I with ⟨_, _, e, _⟩ | ⟨_, e, _⟩ | ⟨_, e, _⟩ | ⟨_, _, _, e, rfl⟩ <;> cases e
    rfl
   ·cases h
  ·obtain ⟨q, J, I⟩ := H.2 0 _ rfl
   rcases I with ⟨_, _, e, _⟩ | ⟨_, e, _⟩ | ⟨_, e, _⟩ | ⟨_, _, _, e, _⟩ <;> cases e
  ·obtain ⟨q, J, I⟩ := H.2 0 _ rfl
   rcases I with ⟨_, _, e, _⟩ | ⟨_, e, _⟩ | ⟨_, e, _⟩ | ⟨_, _, _, e, _⟩ <;> cases e
  ·obtain ⟨q, J, I⟩ := H.2 0 _ rfl
   rcases I with ⟨_, _, e, _⟩ | ⟨_, e, _⟩ | ⟨_, e, _⟩ | ⟨_, _, _, e, _⟩ <;> cases e
  ·cases h
 | .cons a b, cs, qs, K, H, h => by
  simp only [eV] at h
  obtain ⟨x, _, _, h, V⟩ := kQ (H.take a.size) h
  obtain ⟨y, β, l, h, N⟩ := kQ (H.drop a.size) h
  exact ⟨(x, y), _, _, h, by simp only [aM, V, N, List.take_append_drop]⟩
theorem I4 (r : KRow) : r.down.okShut = A4 r := by
 cases r with
 | ts β ag T xs =>
  refine KRow.tsCases (P := fun β ag T xs => (KRow.ts β ag T xs).down.okShut = true) (fun β k xs => rfl) (fun β ag T xs h => ?_) β ag T xs
  rw [KRow.down_sl h]; rfl
 | cells => rfl
 | os T xs hs => cases hs <;> rfl
theorem Ml (r : KRow) : (LN r).down = r.down.shut := by
 cases r with
 | ts β ag T xs =>
  refine KRow.tsCases (P := fun β ag T xs => (KRow.ts β ag T xs).down = (KRow.ts β ag T xs).down.shut) (fun β k xs => rfl) (fun β ag T xs h => ?_) β ag T xs
  rw [KRow.down_sl h]; rfl
 | cells => rfl
 | os T xs hs => exact KRow.down_sl (GK T)
theorem sW (mem : aD) : ∀ (l : List Nat), (l4 mem l).map (fun q => (q.1, q.2.down)) = bY (aB mem) l
 | [] => rfl
 | b :: l => by
  unfold l4 bY
  rw [aX, eM]
  have H := sW mem l
  cases hb : mem[b]? with
  | none => simpa using H
  | some x =>
   cases x with
   | none => simpa using H
   | some x =>
    simp only [yg]
    rw [show x.down.row = x.row.down from rfl, I4]
    cases hs : A4 x.row with
    | true =>
     simp only [yl, yx1, H]
     simp only [dE.down, Ml]
    | false => simpa using H
theorem jL {ag : Bool} {cs : List PV} (h : ag = true ∨ 2 ≤ cs.length) : iG ag cs = .agg cs := by
 unfold iG
 split
 ·rcases h with h | h
  ·cases h
  ·simp at h
 ·rfl
theorem KS {t : TypeId} {m : aH} {b g i n : Nat} {H : a9} {I : IntKind} {xs : List Int} {v : Int} (J : box? m b g = some H) (hn : iR P t = some n) (M : (!H.frz && Nat.beq (AV.lit (.int I v)).cells.length n) = true) (hr : H.row = .ints I xs)
  (K : Nat.ble (i + 1) xs.length = true) : iO P t m (.ptr b g i 0) (.lit (.int I v)) = some { v := .lit undef, rd := [b], wr := [(b, { gen := H.gen, frz := H.frz, row := .ints I (xs.set i v) })] } := by
 simp only [iO, J, hn, ye]
 rw [d9]; refine ⟨M, ?_⟩
 rw [hr]
 simp only [d9, yb]
 exact ⟨⟨⟨rW.2 rfl, rfl⟩, K⟩, trivial⟩
theorem KI (ht : bI P tab) {t : TypeId} {a x : KV} {k : aZ → Option R} (h : K8 (aP R) tab t mem a x k = some r) : ∃ out, k out = some r ∧ iO P t (aB mem) a.down x.down = some out.down := by
 unfold K8 at h
 split at h
 ·rename_i Z hti
  have K := bV.of (ht _ _ hti)
  split at h
  ·rename_i b g i c
   have h' := cQ h
   clear h
   obtain ⟨O, U, h⟩ := h'
   rw [bP] at h
   obtain ⟨hg, h⟩ := h
   simp only [yb] at hg
   have hlen := nb.1 hg.2
   have V : (!O.down.frz && Nat.beq x.down.cells.length Z.n) = true := by
    rw [eG, aG, hlen]; simpa [dE.down] using hg.1
   split at h
   ·rename_i e cs M
    have hd : O.down.row = .cells e (KV.downs cs) := by rw [show O.down.row = O.row.down from rfl, M]; rfl
    cases J : Nat.beq Z.n 1 with
    | true =>
     rw [J] at h; simp only [yl] at h
     split at h
     ·rename_i v hv
      rw [bP] at h
      obtain ⟨h1, h⟩ := h
      obtain ⟨_, hlt, h⟩ := B8 h
      refine ⟨_, h, ?_⟩
      have J := nb.1 J
      simp only [KV.down, iO, U, ye, K.n]
      rw [d9]; refine ⟨V, ?_⟩
      rw [hd]
      simp only [d9, eG, hv, aG, yb]
      refine ⟨⟨nl.2 (by omega), by simp [KV.downs, iV, oS h1]⟩, ?_⟩
      simp [aZ.down, KV.down, KV.downs, dE.down, KRow.down, setCells, A2, aB]
     ·cases h
    | false =>
     rw [J] at h; simp only [yk] at h
     rw [bP] at h
     obtain ⟨h1, h⟩ := h
     simp only [yb] at h1
     refine ⟨_, h, ?_⟩
     simp only [KV.down, iO, U, ye, K.n]
     rw [d9]; refine ⟨V, ?_⟩
     rw [hd]
     simp only [d9, eG, aG, yb]
     refine ⟨⟨h1.1, eY h1.2⟩, ?_⟩
     simp [aZ.down, KV.down, dE.down, KRow.down, sK, aB]
   ·rename_i β ag T xs M
    have hd : O.down.row = (KRow.ts β ag T xs).down := by rw [show O.down.row = O.row.down from rfl, M]
    cases hi : aY ag T with
    | true =>
     rw [hi] at h; simp only [yl] at h
     split at h
     ·rename_i kd v
      rw [bP] at h
      obtain ⟨I, h⟩ := h
      simp only [yb] at I
      obtain rfl := nb.1 I.1
      have J := nb.1 I.2
      split at h
      ·rename_i z N
       obtain ⟨rfl, rfl⟩ := mD (F := den) N
       simp only [real_guard] at h
       rw [bP] at h
       refine ⟨_, h.2, ?_⟩
       obtain ⟨rfl, _⟩ := aK.1 hi
       have hd' : O.down.row = .ints kd xs := hd
       exact KS U K.n V hd' h.1
      ·cases h
     ·cases h
    | false =>
     rw [hi] at h; simp only [yk] at h
     rw [bP] at h
     obtain ⟨I, h⟩ := h
     have I := nl.1 I
     rw [KRow.down_sl hi] at hd
     split at h
     ·rename_i W hT'
      obtain ⟨y, β', l, h, hpv⟩ := Ed K hT' h
      cases hmb : eZ b l with
      | true => rw [hmb] at h; cases h
      | false =>
       rw [hmb] at h; simp only [yk] at h
       have fin : ∀ {p : PV} {z : den T}, (xs.map (cT ag T))[i]? = some p → p.cells.length = T.size → cT ag T z = (bif Nat.beq Z.n T.size && Nat.beq c 0 then cT Z.ag W y else .agg (n5 p.cells c (cT Z.ag W y).cells)) →
         k ⟨.lit undef, b :: l, l4 mem l ++ [(b, ⟨O.gen, O.frz, .ts (β || β') ag T (xs.set i z)⟩)], []⟩ = some r → ∃ out, k out = some r ∧ iO P t (aB mem) (KV.ptr b g i c).down x.down = some out.down := by
        intro p z hp hpl N hk
        refine ⟨_, hk, ?_⟩
        simp only [KV.down, iO, U, ye, K.n]
        rw [d9]; refine ⟨V, ?_⟩
        rw [hd]
        simp only [hp, hpv, ye, d9, yb]
        refine ⟨⟨⟨nl.2 I, nb.2 hpl⟩, by rw [hmb]; rfl⟩, ?_⟩
        rw [← N]
        refine congrArg some ?_
        simp only [aZ.down, yk3, sW, yx1, yq3]
        simp [KV.down, dE.down, KRow.down_sl hi, aB, List.map_set]
       cases H : Nat.beq c 0 && Nat.beq Z.n T.size with
       | true =>
        rw [H] at h; simp only [yl] at h
        split at h
        ·rename_i z N
         rw [bP] at N
         obtain ⟨Y, N⟩ := N
         have Y := Ip.1 Y
         obtain ⟨rfl, rfl⟩ := mD (F := den) N
         simp only [real_guard] at h
         rw [bP] at h
         have hlt := nl.1 h.1
         have hx : (xs.map (cT ag W))[i]? = some (cT ag W xs[i]) := by rw [yb1, yf (by omega)]; rfl
         refine fin hx (by rw [b7, bR]) ?_ h.2
         rw [Bool.and_comm, H, Y]; rfl
        ·cases h
       | false =>
        rw [H] at h; simp only [yk, real_getN] at h
        rw [C3] at h
        obtain ⟨p, hp, h⟩ := h
        obtain ⟨z, _, _, h, N⟩ := kQ (dF.setRow c (dF.of false W y) (dF.of false T p)) h
        refine fin (p := cT ag T p) (by rw [yb1, hp]; rfl) (by rw [b7, bR]) ?_ h
        rw [Bool.and_comm, H]
        simp only [yk, b7]
        rw [← N]
        have hsz : ag = true ∨ 2 ≤ T.size := by
         cases ag with
         | true => exact .inl rfl
         | false =>
          right
          have h1 := Ty.size_pos (T := T)
          have h2 := (K.ty W hT').2.1
          have h3 := Ty.size_pos (T := W)
          rcases yc2 T.size 2 with hlt | hge
          ·exfalso
           have hc0 : c = 0 := by omega
           have J : Z.n = T.size := by omega
           rw [hc0, J] at H
           simp at H
          ·exact hge
        exact jL (hsz.imp id fun h => by rw [bR]; exact h)
     ·cases h
   ·cases h
  ·cases h
 ·cases h
end
end Go.Ab
