import Derived.Test.YtdlbbdbbpoggfaaLib14
set_option linter.unusedVariables false
set_option linter.unusedSectionVars false
set_option linter.unusedSimpArgs false
namespace Go.Ab
variable [b4]
section
variable {P : Program} {R : Type} {r : R} {mem : aD} {tab : TypeId → Option TI}
theorem bU.under_sl {t : TypeId} {H : TI} {I : TypeId} (h : bU P t H) (K : H.tk = .sl I) : P.underlying t = some (.slice I) := by
 have := h.tk
 unfold m9 at this
 rw [K] at this
 cases J : P.underlying t with
 | none => rw [J] at this; simp at this
 | some d => rw [J] at this; cases d <;> simp_all [nb]
theorem bU.under_arr {t : TypeId} {H : TI} {n : Nat} {e : TypeId} (h : bU P t H) (J : H.tk = .arr n e) : P.underlying t = some (.array n e) := by
 have := h.tk
 unfold m9 at this
 rw [J] at this
 cases I : P.underlying t with
 | none => rw [I] at this; simp at this
 | some d => rw [I] at this; cases d <;> simp_all [nb]
theorem bU.under_str {t : TypeId} {H : TI} (h : bU P t H) (J : H.tk = .str) : P.underlying t = some .string := by
 have := h.tk
 unfold m9 at this
 rw [J] at this
 cases I : P.underlying t with
 | none => rw [I] at this; simp at this
 | some d => rw [I] at this; cases d <;> simp_all
theorem bU.under_int {t : TypeId} {H : TI} {k : IntKind} (h : bU P t H) (J : H.tk = .int k) : P.underlying t = some (.int k) := by
 have := h.tk
 unfold m9 at this
 rw [J] at this
 cases I : P.underlying t with
 | none => rw [I] at this; simp at this
 | some d => rw [I] at this; cases d <;> simp_all [rW]
theorem bU.under_st {t : TypeId} {H : TI} {fs : List (Nat × Nat × TypeId)} (h : bU P t H) (J : H.tk = .st fs) : ∃ l, P.underlying t = some (.struct l) ∧ B3 P fs l.toList = true := by
 have := h.tk
 unfold m9 at this
 rw [J] at this
 cases I : P.underlying t with
 | none => rw [I] at this; simp at this
 | some d => rw [I] at this; cases d <;> simp_all
theorem sM {β ag : Bool} {T : Ty} {xs : List (den T)} (h : aY ag T = false) : (KV.tsl β ag T xs).down = .imm β (.sl T.size (xs.map (cT ag T))) := by simp only [KV.down, bX h]
theorem Og {α β : Type} (f : α → β) (xs : List α) (i : Int) : eC (xs.map f) i = (eC xs i).map f := by
 unfold eC
 cases decide (0 ≤ i) <;> simp
theorem KQ {t H : TypeId} {m : aH} {β : Bool} {I : IntKind} {xs : List Int} {i v : Int} (K : P.underlying t = some (.slice H)) (hn : iN P H = some 1) (J : eC xs i = some v) :
  gV P t m (.imm β (.ints I xs)) i = some { v := .el β (.lit (.int I v)) 0 } := by simp [gV, K, hn, J, guardB]
theorem Ll {t I : TypeId} {m : aH} {β : Bool} {J : IntKind} {xs : List Int} {K H M : Option Int} {b : Nat × Nat} (O : P.underlying t = some (.slice I)) (hn : iN P I = some 1) (N : fR xs.length K H M = some b) :
  fU P t m (.imm β (.ints J xs)) K H M = some { v := .imm β (.ints J ((xs.take b.2).drop b.1)) } := by simp [fU, O, hn, N, guardB]
theorem KJ (ht : bG P tab) {t : TypeId} {x : KV} {i : Int} {k : aZ → Option R} (h : Lc (aP R) tab t mem x i k = some r) : ∃ out, k out = some r ∧ gV P t (aB mem) x.down i = some out.down := by
 unfold Lc at h
 split at h
 ·rename_i ti O
  have N := bU.of (ht _ _ O)
  split at h
  ·rename_i et U
   have K := N.under_sl U
   split at h
   ·rename_i te I
    have H := bU.of (ht _ _ I)
    split at h
    ·rename_i β ag T xs
     rw [bR] at h
     obtain ⟨hn, h⟩ := h
     have hn := nb.1 hn
     simp only [real_get] at h
     rw [C7] at h
     obtain ⟨v, Z, h⟩ := h
     refine ⟨_, h, ?_⟩
     cases Y : aY ag T with
     | true =>
      obtain ⟨rfl, kk, rfl⟩ := aK.1 Y
      have W : te.n = 1 := hn
      show gV P t (aB mem) (.imm β (.ints kk xs)) i = _
      have V : eC (xs : List Int) i = some v := Z
      exact KQ K (by rw [H.n, W]) V
     | false =>
      rw [sM Y]
      simp only [gV, K, H.n, ye, eB, hn, Og, Z, yg]
      exact ⟨nb.2 rfl, rfl⟩
    ·rename_i b g o n
     obtain ⟨M, J, h⟩ := cQ h
     rw [bR] at h
     obtain ⟨hn, h⟩ := h
     simp only [real_guard] at h
     rw [bR] at h
     refine ⟨_, h.2, ?_⟩
     simp only [gV, KV.down, K, H.n, ye, J, show M.down.row = M.row.down from rfl, wY, eB, hn, h.1, yl3]
     exact ⟨by simp, rfl⟩
    ·rename_i b g
     obtain ⟨M, J, h⟩ := cQ h
     rw [bR] at h
     obtain ⟨hn, h⟩ := h
     simp only [real_guard] at h
     rw [bR] at h
     refine ⟨_, h.2, ?_⟩
     simp only [gV, KV.down, K, H.n, ye, J, show M.down.row = M.row.down from rfl, wY, pN, eB, hn, h.1, yl3]
     exact ⟨by simp, rfl⟩
    ·cases h
   ·cases h
  ·rename_i n e U
   have K := N.under_arr U
   split at h
   ·rename_i te I
    have H := bU.of (ht _ _ I)
    split at h
    ·rename_i b g j c
     simp only [real_guard] at h
     rw [bR] at h
     refine ⟨_, h.2, ?_⟩
     simp only [gV, KV.down, K, H.n, ye, eB]
     exact ⟨h.1, rfl⟩
    ·cases h
   ·cases h
  ·cases h
 ·cases h
theorem Kh (ht : bG P tab) {t : TypeId} {x : KV} {lo W mx : Option Int} {k : aZ → Option R} (h : K5 (aP R) tab t mem x lo W mx k = some r) :
  ∃ out, k out = some r ∧ fU P t (aB mem) x.down lo W mx = some out.down := by
 unfold K5 at h
 split at h
 ·rename_i ti hti
  have U := bU.of (ht _ _ hti)
  split at h
  ·rename_i Z
   have J := U.under_str Z
   split at h
   ·rename_i s
    rw [bR] at h
    obtain ⟨hm, h⟩ := h
    obtain ⟨b, hb, h⟩ := fF h
    exact ⟨_, h, by simp only [fU, KV.down, J, eB, hm, hb, yg]; exact ⟨trivial, rfl⟩⟩
   ·cases h
  ·rename_i et Z
   have J := U.under_sl Z
   split at h
   ·rename_i te M
    have H := bU.of (ht _ _ M)
    split at h
    ·rename_i β ag T xs
     rw [bR] at h
     obtain ⟨hn, h⟩ := h
     have hn := nb.1 hn
     obtain ⟨b, hb, h⟩ := fF h
     refine ⟨_, h, ?_⟩
     cases W : aY ag T with
     | true =>
      obtain ⟨rfl, kk, rfl⟩ := aK.1 W
      have V : te.n = 1 := hn
      show fU P t (aB mem) (.imm β (.ints kk xs)) lo _ mx = _
      have hb' : fR (xs : List Int).length lo _ mx = some b := hb
      exact Ll J (by rw [H.n, V]) hb'
     | false =>
      rw [sM W]
      simp only [fU, J, H.n, ye, eB, hn, ye1, hb, yg]
      exact ⟨nb.2 rfl, by simp [aZ.down, f8, sM W, aB, yz2, yn3]⟩
    ·rename_i b g o n
     obtain ⟨K, I, h⟩ := cQ h
     rw [bR] at h
     obtain ⟨hn, h⟩ := h
     obtain ⟨q, O, h⟩ := fF h
     refine ⟨_, h, ?_⟩
     simp only [fU, KV.down, J, H.n, ye, I, show K.down.row = K.row.down from rfl, wY, eB, hn, O, yg]
     exact ⟨trivial, rfl⟩
    ·rename_i b g
     obtain ⟨K, I, h⟩ := cQ h
     rw [bR] at h
     obtain ⟨hn, h⟩ := h
     obtain ⟨q, O, h⟩ := fF h
     refine ⟨_, h, ?_⟩
     simp only [fU, KV.down, J, H.n, ye, I, show K.down.row = K.row.down from rfl, wY, pN, eB, hn, O, yg]
     exact ⟨trivial, rfl⟩
    ·obtain ⟨q, O, h⟩ := fF h
     refine ⟨_, h, ?_⟩
     simp only [fU, KV.down, J, H.n, ye, O, yg]; rfl
    ·cases h
   ·cases h
  ·rename_i n e Z
   have J := U.under_arr Z
   split at h
   ·rename_i te M
    have H := bU.of (ht _ _ M)
    split at h
    ·rename_i b g i c
     rw [bR] at h
     obtain ⟨hg, h⟩ := h
     simp only [yb] at hg
     obtain rfl := nb.1 hg.1
     have V := nb.1 hg.2
     obtain ⟨K, I, h⟩ := cQ h
     split at h
     ·rename_i e' cs Y
      rw [bR] at h
      obtain ⟨N, h⟩ := h
      simp only [yb] at N
      obtain rfl := nb.1 N.1
      obtain ⟨q, O, h⟩ := fF h
      refine ⟨_, h, ?_⟩
      have hd : K.down.row = .cells 1 (KV.downs cs) := by rw [show K.down.row = K.row.down from rfl, Y]; rfl
      simp only [fU, KV.down, J, H.n, ye, V, eB, I, hd, aG, N.2, O, yg]
      exact ⟨rfl, trivial, rfl⟩
     ·cases h
    ·cases h
   ·cases h
  ·cases h
 ·cases h
theorem BU (cs : List KV) (i : Nat) (v : KV) : KV.downs (cs.set i v) = (KV.downs cs).set i v.down := by simp [cY, List.map_set]
theorem vJ : ∀ (vs : List KV) (cs : List KV) (i : Nat), KV.downs (cZ cs i vs) = setCells (KV.downs cs) i (KV.downs vs)
 | [], cs, i => rfl
 | v :: vs, cs, i => by simp only [cZ, KV.downs, setCells, vJ vs, d8, BU]
def dF (β : Bool) (cs : List KV) (qs : List PV) : Prop := cs.length = qs.length ∧ ∀ (j : Nat) (v : KV), cs[j]? = some v → ∃ q, qs[j]? = some q ∧ j3 β v q
theorem dF.of (β : Bool) (T : Ty) (x : den T) : dF β (cellsOf β T x) (aM T x) := ⟨by rw [jH.1, bP], jH.2⟩
theorem dF.set {β : Bool} {cs : List KV} {qs : List PV} (h : dF β cs qs) {v : KV} {q : PV} (K : j3 β v q) (i : Nat) : dF β (cs.set i v) (qs.set i q) := by
 refine ⟨by simp [h.1], fun j w H => ?_⟩
 by_cases e : j = i
 ·subst e
  have I : j < cs.length := by have := (yd.1 H).1; simpa using this
  rw [yw I] at H
  obtain rfl := ya H
  exact ⟨q, yw (by rw [← h.1]; exact I), K⟩
 ·rw [yp (fun x => e x.symm)] at H
  obtain ⟨p, M, J⟩ := h.2 j w H
  exact ⟨p, by rw [yp (fun x => e x.symm)]; exact M, J⟩
theorem dF.setRow {β : Bool} : ∀ {vs : List KV} {ps : List PV} {cs : List KV} {qs : List PV} (i : Nat), dF β vs ps → dF β cs qs → dF β (cZ cs i vs) (oC qs i ps)
 | [], [], cs, qs, i, _, h => h
 | [], p :: ps, cs, qs, i, H, h => by cases H.1
 | v :: vs, [], cs, qs, i, H, h => by cases H.1
 | v :: vs, p :: ps, cs, qs, i, H, h => by
  obtain ⟨q, K, I⟩ := H.2 0 v rfl
  obtain rfl := ya K
  simp only [cZ, oC, d8]
  exact dF.setRow (i + 1) ⟨by simpa using H.1, fun j w J => by simpa using H.2 (j + 1) w (by simpa using J)⟩ (h.set I i)
theorem dF.take {β : Bool} {cs : List KV} {qs : List PV} (h : dF β cs qs) (n : Nat) : dF β (cs.take n) (qs.take n) := by
 refine ⟨by simp [h.1], fun j v H => ?_⟩
 rw [yj1] at H
 split at H
 ·rename_i I
  obtain ⟨q, K, J⟩ := h.2 j v H
  exact ⟨q, by rw [yj1, if_pos I]; exact K, J⟩
 ·cases H
theorem dF.drop {β : Bool} {cs : List KV} {qs : List PV} (h : dF β cs qs) (n : Nat) : dF β (cs.drop n) (qs.drop n) := by
 refine ⟨by simp [h.1], fun j v H => ?_⟩
 rw [yz] at H ⊢
 exact h.2 _ v H
theorem kY : ∀ {T : Ty} {cs : List KV} {qs : List PV} {K : den T → Bool → List Nat → Option R}, dF false cs qs → eT (aP R) mem T cs K = some r → ∃ z β l, K z β l = some r ∧ aM T z = qs
 | .int k, cs, qs, K, H, h => by
  simp only [eT] at h
  split at h
  ·rename_i k' x
   rw [bR] at h
   obtain ⟨q, J, I⟩ := H.2 0 _ rfl
   obtain ⟨M, rfl⟩ := ye2.1 H.1.symm
   obtain rfl := ya J
   refine ⟨x, _, _, h.2, ?_⟩
   obtain rfl := rW.1 h.1
   rcases I with ⟨_, _, e, rfl⟩ | ⟨_, e, _⟩ | ⟨_, e, _⟩ | ⟨_, _, _, e, _⟩ <;> cases e
   rfl
  ·cases h
 | .bool, cs, qs, K, H, h => by
  simp only [eT] at h
  split at h
  ·rename_i x
   obtain ⟨q, J, I⟩ := H.2 0 _ rfl
   obtain ⟨M, rfl⟩ := ye2.1 H.1.symm
   obtain rfl := ya J
   refine ⟨x, _, _, h, ?_⟩
   rcases I with ⟨_, _, e, _⟩ | ⟨_, e, rfl⟩ | ⟨_, e, _⟩ | ⟨_, _, _, e, _⟩ <;> cases e
   rfl
  ·cases h
 | .str, cs, qs, K, H, h => by
  simp only [eT] at h
  split at h
  ·rename_i x
   obtain ⟨q, J, I⟩ := H.2 0 _ rfl
   obtain ⟨M, rfl⟩ := ye2.1 H.1.symm
   obtain rfl := ya J
   refine ⟨x, _, _, h, ?_⟩
   rcases I with ⟨_, _, e, _⟩ | ⟨_, e, _⟩ | ⟨_, e, rfl⟩ | ⟨_, _, _, e, _⟩ <;> cases e
   rfl
  ·cases h
 | .sl ag T, cs, qs, K, H, h => by
  simp only [eT] at h
  split at h
  ·rename_i β O T' xs
   rw [bR] at h
   obtain ⟨U, h⟩ := h
   obtain rfl := Ip.1 U
   split at h
   ·rename_i ys N
    obtain ⟨rfl, rfl⟩ := dW N
    obtain ⟨q, J, I⟩ := H.2 0 _ rfl
    obtain ⟨M, rfl⟩ := ye2.1 H.1.symm
    obtain rfl := ya J
    refine ⟨xs, _, _, h, ?_⟩
    rcases I with ⟨_, _, e, _⟩ | ⟨_, e, _⟩ | ⟨_, e, _⟩ | ⟨_, _, _, e, rfl⟩ <;> cases e
    rfl
   ·cases h
  ·obtain ⟨q, J, I⟩ := H.2 0 _ rfl
   rcases I with ⟨_, _, e, _⟩ | ⟨_, e, _⟩ | ⟨_, e, _⟩ | ⟨_, _, _, e, _⟩ <;> cases e
  ·obtain ⟨q, J, I⟩ := H.2 0 _ rfl
   rcases I with ⟨_, _, e, _⟩ | ⟨_, e, _⟩ | ⟨_, e, _⟩ | ⟨_, _, _, e, _⟩ <;> cases e
  ·obtain ⟨q, J, I⟩ := H.2 0 _ rfl
   rcases I with ⟨_, _, e, _⟩ | ⟨_, e, _⟩ | ⟨_, e, _⟩ | ⟨_, _, _, e, _⟩ <;> cases e
  ·cases h
 | .cons a b, cs, qs, K, H, h => by
  simp only [eT] at h
  obtain ⟨x, _, _, h, V⟩ := kY (H.take a.size) h
  obtain ⟨y, β, l, h, N⟩ := kY (H.drop a.size) h
  exact ⟨(x, y), _, _, h, by simp only [aM, V, N, List.take_append_drop]⟩
theorem JV (r : KRow) : r.down.okShut = BA r := by
 cases r with
 | ts β ag T xs =>
  refine KRow.tsCases (P := fun β ag T xs => (KRow.ts β ag T xs).down.okShut = true) (fun β k xs => rfl) (fun β ag T xs h => ?_) β ag T xs
  rw [KRow.down_sl h]; rfl
 | cells => rfl
 | os T xs hs => cases hs <;> rfl
theorem MY (r : KRow) : (LL r).down = r.down.shut := by
 cases r with
 | ts β ag T xs =>
  refine KRow.tsCases (P := fun β ag T xs => (KRow.ts β ag T xs).down = (KRow.ts β ag T xs).down.shut) (fun β k xs => rfl) (fun β ag T xs h => ?_) β ag T xs
  rw [KRow.down_sl h]; rfl
 | cells => rfl
 | os T xs hs => exact KRow.down_sl (Gz T)
theorem s5 (mem : aD) : ∀ (l : List Nat), (lT mem l).map (fun q => (q.1, q.2.down)) = bZ (aB mem) l
 | [] => rfl
 | b :: l => by
  unfold lT bZ
  rw [aX, eM]
  have H := s5 mem l
  cases hb : mem[b]? with
  | none => simpa using H
  | some x =>
   cases x with
   | none => simpa using H
   | some x =>
    simp only [yg]
    rw [show x.down.row = x.row.down from rfl, JV]
    cases hs : BA x.row with
    | true =>
     simp only [yl, yx1, H]
     simp only [dD.down, MY]
    | false => simpa using H
theorem jO {ag : Bool} {cs : List PV} (h : ag = true ∨ 2 ≤ cs.length) : iF ag cs = .agg cs := by
 unfold iF
 split
 ·rcases h with h | h
  ·cases h
  ·simp at h
 ·rfl
theorem Kc {t : TypeId} {m : aH} {b g i n : Nat} {H : a9} {I : IntKind} {xs : List Int} {v : Int} (K : box? m b g = some H) (hn : iN P t = some n) (J : (!H.frz && Nat.beq (AV.lit (.int I v)).cells.length n) = true) (hr : H.row = .ints I xs)
  (M : Nat.ble (i + 1) xs.length = true) : iR P t m (.ptr b g i 0) (.lit (.int I v)) = some { v := .lit undef, rd := [b], wr := [(b, { gen := H.gen, frz := H.frz, row := .ints I (xs.set i v) })] } := by
 simp only [iR, K, hn, ye]
 rw [eB]; refine ⟨J, ?_⟩
 rw [hr]
 simp only [eB, yb]
 exact ⟨⟨⟨rW.2 rfl, rfl⟩, M⟩, trivial⟩
theorem KX (ht : bG P tab) {t : TypeId} {a x : KV} {k : aZ → Option R} (h : Lk (aP R) tab t mem a x k = some r) : ∃ out, k out = some r ∧ iR P t (aB mem) a.down x.down = some out.down := by
 unfold Lk at h
 split at h
 ·rename_i W hti
  have K := bU.of (ht _ _ hti)
  split at h
  ·rename_i b g i c
   have h' := cQ h
   clear h
   obtain ⟨N, V, h⟩ := h'
   rw [bR] at h
   obtain ⟨hg, h⟩ := h
   simp only [yb] at hg
   have hlen := nb.1 hg.2
   have U : (!N.down.frz && Nat.beq x.down.cells.length W.n) = true := by
    rw [eH, aG, hlen]; simpa [dD.down] using hg.1
   split at h
   ·rename_i e cs M
    have hd : N.down.row = .cells e (KV.downs cs) := by rw [show N.down.row = N.row.down from rfl, M]; rfl
    cases I : Nat.beq W.n 1 with
    | true =>
     rw [I] at h; simp only [yl] at h
     split at h
     ·rename_i v hv
      rw [bR] at h
      obtain ⟨h1, h⟩ := h
      obtain ⟨_, hlt, h⟩ := Cg h
      refine ⟨_, h, ?_⟩
      have I := nb.1 I
      simp only [KV.down, iR, V, ye, K.n]
      rw [eB]; refine ⟨U, ?_⟩
      rw [hd]
      simp only [eB, eH, hv, aG, yb]
      refine ⟨⟨nl.2 (by omega), by simp [KV.downs, jB, oL h1]⟩, ?_⟩
      simp [aZ.down, KV.down, KV.downs, dD.down, KRow.down, setCells, BU, aB]
     ·cases h
    | false =>
     rw [I] at h; simp only [yk] at h
     rw [bR] at h
     obtain ⟨h1, h⟩ := h
     simp only [yb] at h1
     refine ⟨_, h, ?_⟩
     simp only [KV.down, iR, V, ye, K.n]
     rw [eB]; refine ⟨U, ?_⟩
     rw [hd]
     simp only [eB, eH, aG, yb]
     refine ⟨⟨h1.1, eU h1.2⟩, ?_⟩
     simp [aZ.down, KV.down, dD.down, KRow.down, vJ, aB]
   ·rename_i β ag T xs M
    have hd : N.down.row = (KRow.ts β ag T xs).down := by rw [show N.down.row = N.row.down from rfl, M]
    cases hi : aY ag T with
    | true =>
     rw [hi] at h; simp only [yl] at h
     split at h
     ·rename_i kd v
      rw [bR] at h
      obtain ⟨J, h⟩ := h
      simp only [yb] at J
      obtain rfl := nb.1 J.1
      have I := nb.1 J.2
      split at h
      ·rename_i z O
       obtain ⟨rfl, rfl⟩ := mN (F := den) O
       simp only [real_guard] at h
       rw [bR] at h
       refine ⟨_, h.2, ?_⟩
       obtain ⟨rfl, _⟩ := aK.1 hi
       have hd' : N.down.row = .ints kd xs := hd
       exact Kc V K.n U hd' h.1
      ·cases h
     ·cases h
    | false =>
     rw [hi] at h; simp only [yk] at h
     rw [bR] at h
     obtain ⟨J, h⟩ := h
     have J := nl.1 J
     rw [KRow.down_sl hi] at hd
     split at h
     ·rename_i T' hT'
      obtain ⟨y, β', l, h, hpv⟩ := Du K hT' h
      cases Y : eZ b l with
      | true => rw [Y] at h; cases h
      | false =>
       rw [Y] at h; simp only [yk] at h
       have fin : ∀ {p : PV} {z : den T}, (xs.map (cT ag T))[i]? = some p → p.cells.length = T.size → cT ag T z = (bif Nat.beq W.n T.size && Nat.beq c 0 then cT W.ag T' y else .agg (oC p.cells c (cT W.ag T' y).cells)) →
         k ⟨.lit undef, b :: l, lT mem l ++ [(b, ⟨N.gen, N.frz, .ts (β || β') ag T (xs.set i z)⟩)], []⟩ = some r → ∃ out, k out = some r ∧ iR P t (aB mem) (KV.ptr b g i c).down x.down = some out.down := by
        intro p z hp hpl O hk
        refine ⟨_, hk, ?_⟩
        simp only [KV.down, iR, V, ye, K.n]
        rw [eB]; refine ⟨U, ?_⟩
        rw [hd]
        simp only [hp, hpv, ye, eB, yb]
        refine ⟨⟨⟨nl.2 J, nb.2 hpl⟩, by rw [Y]; rfl⟩, ?_⟩
        rw [← O]
        refine congrArg some ?_
        simp only [aZ.down, yk3, s5, yx1, yq3]
        simp [KV.down, dD.down, KRow.down_sl hi, aB, List.map_set]
       cases H : Nat.beq c 0 && Nat.beq W.n T.size with
       | true =>
        rw [H] at h; simp only [yl] at h
        split at h
        ·rename_i z O
         rw [bR] at O
         obtain ⟨Z, O⟩ := O
         have Z := Ip.1 Z
         obtain ⟨rfl, rfl⟩ := mN (F := den) O
         simp only [real_guard] at h
         rw [bR] at h
         have hlt := nl.1 h.1
         have hx : (xs.map (cT ag T'))[i]? = some (cT ag T' xs[i]) := by rw [yb1, yf (by omega)]; rfl
         refine fin hx (by rw [b6, bP]) ?_ h.2
         rw [Bool.and_comm, H, Z]; rfl
        ·cases h
       | false =>
        rw [H] at h; simp only [yk, real_getN] at h
        rw [C7] at h
        obtain ⟨p, hp, h⟩ := h
        obtain ⟨z, _, _, h, O⟩ := kY (dF.setRow c (dF.of false T' y) (dF.of false T p)) h
        refine fin (p := cT ag T p) (by rw [yb1, hp]; rfl) (by rw [b6, bP]) ?_ h
        rw [Bool.and_comm, H]
        simp only [yk, b6]
        rw [← O]
        have hsz : ag = true ∨ 2 ≤ T.size := by
         cases ag with
         | true => exact .inl rfl
         | false =>
          right
          have h1 := Ty.size_pos (T := T)
          have h2 := (K.ty T' hT').2.1
          have h3 := Ty.size_pos (T := T')
          rcases yc2 T.size 2 with hlt | hge
          ·exfalso
           have hc0 : c = 0 := by omega
           have I : W.n = T.size := by omega
           rw [hc0, I] at H
           simp at H
          ·exact hge
        exact jO (hsz.imp id fun h => by rw [bP]; exact h)
     ·cases h
   ·cases h
  ·cases h
 ·cases h
end
end Go.Ab
