import Derived.Test.YtmoldheenagboaaLib14
set_option linter.unusedVariables false
set_option linter.unusedSectionVars false
set_option linter.unusedSimpArgs false
namespace Go.Ab
variable [b8]
section
variable {P : Program} {R : Type} {r : R} {mem : aO} {tab : TypeId → Option TI}
theorem bX.under_sl {t : TypeId} {H : TI} {J : TypeId} (h : bX P t H) (K : H.tk = .sl J) : P.underlying t = some (.slice J) := by
 have := h.tk
 unfold lF at this
 rw [K] at this
 cases z : P.underlying t with
 | none => rw [z] at this; simp at this
 | some d => rw [z] at this; cases d <;> simp_all [nb]
theorem bX.under_arr {t : TypeId} {H : TI} {n : Nat} {e : TypeId} (h : bX P t H) (J : H.tk = .arr n e) : P.underlying t = some (.array n e) := by
 have := h.tk
 unfold lF at this
 rw [J] at this
 cases z : P.underlying t with
 | none => rw [z] at this; simp at this
 | some d => rw [z] at this; cases d <;> simp_all [nb]
theorem bX.under_str {t : TypeId} {H : TI} (h : bX P t H) (J : H.tk = .str) : P.underlying t = some .string := by
 have := h.tk
 unfold lF at this
 rw [J] at this
 cases z : P.underlying t with
 | none => rw [z] at this; simp at this
 | some d => rw [z] at this; cases d <;> simp_all
theorem bX.under_int {t : TypeId} {H : TI} {k : IntKind} (h : bX P t H) (J : H.tk = .int k) : P.underlying t = some (.int k) := by
 have := h.tk
 unfold lF at this
 rw [J] at this
 cases z : P.underlying t with
 | none => rw [z] at this; simp at this
 | some d => rw [z] at this; cases d <;> simp_all [rT]
theorem bX.under_st {t : TypeId} {H : TI} {fs : List (Nat × Nat × TypeId)} (h : bX P t H) (J : H.tk = .st fs) : ∃ l, P.underlying t = some (.struct l) ∧ zJ P fs l.toList = true := by
 have := h.tk
 unfold lF at this
 rw [J] at this
 cases z : P.underlying t with
 | none => rw [z] at this; simp at this
 | some d => rw [z] at this; cases d <;> simp_all
theorem pQ {β ag : Bool} {T : Ty} {xs : List (den T)} (h : bP ag T = false) : (KV.tsl β ag T xs).down = .imm β (.sl T.size (xs.map (eF ag T))) := by simp only [KV.down, dB h]
theorem Kp {α β : Type} (f : α → β) (xs : List α) (i : Int) : c0 (xs.map f) i = (c0 xs i).map f := by
 unfold c0
 cases decide (0 ≤ i) <;> simp
theorem HM {t H : TypeId} {m : aW} {β : Bool} {z : IntKind} {xs : List Int} {i v : Int} (K : P.underlying t = some (.slice H)) (N : j0 P H = some 1) (J : c0 xs i = some v) :
  iF P t m (.imm β (.ints z xs)) i = some { v := .el β (.lit (.int z v)) 0 } := by simp [iF, K, N, J, guardB]
theorem HQ {t K : TypeId} {m : aW} {β : Bool} {J : IntKind} {xs : List Int} {z N H : Option Int} {b : Nat × Nat} (O : P.underlying t = some (.slice K)) (U : j0 P K = some 1) (V : gK xs.length z N H = some b) :
  fX P t m (.imm β (.ints J xs)) z N H = some { v := .imm β (.ints J ((xs.take b.2).drop b.1)) } := by simp [fX, O, U, V, guardB]
theorem HZ (Z : b9 P tab) {t : TypeId} {x : KV} {i : Int} {k : bW → Option R} (h : H0 (aL R) tab t mem x i k = some r) : ∃ out, k out = some r ∧ iF P t (aB mem) x.down i = some out.down := by
 unfold H0 at h
 split at h
 ·rename_i ti hti
  have O := bX.of (Z _ _ hti)
  split at h
  ·rename_i et W
   have N := O.under_sl W
   split at h
   ·rename_i te J
    have z := bX.of (Z _ _ J)
    split at h
    ·rename_i β ag T xs
     rw [cK] at h
     obtain ⟨H, h⟩ := h
     have H := nb.1 H
     simp only [real_get] at h
     rw [Jc] at h
     obtain ⟨v, hv, h⟩ := h
     refine ⟨_, h, ?_⟩
     cases hi : bP ag T with
     | true =>
      obtain ⟨rfl, kk, rfl⟩ := aT.1 hi
      have V : te.n = 1 := H
      show iF P t (aB mem) (.imm β (.ints kk xs)) i = _
      have Y : c0 (xs : List Int) i = some v := hv
      exact HM N (by rw [z.n, V]) Y
     | false =>
      rw [pQ hi]
      simp only [iF, N, z.n, yb, f8, H, Kp, hv, yn]
      exact ⟨nb.2 rfl, rfl⟩
    ·rename_i b g o n
     obtain ⟨U, K, h⟩ := cM h
     rw [cK] at h
     obtain ⟨H, h⟩ := h
     simp only [real_guard] at h
     rw [cK] at h
     refine ⟨_, h.2, ?_⟩
     simp only [iF, KV.down, N, z.n, yb, K, show U.down.row = U.row.down from rfl, Dm, f8, H, h.1, Bool.true_and]
     exact ⟨by simp, rfl⟩
    ·rename_i b g
     obtain ⟨U, K, h⟩ := cM h
     rw [cK] at h
     obtain ⟨H, h⟩ := h
     simp only [real_guard] at h
     rw [cK] at h
     refine ⟨_, h.2, ?_⟩
     simp only [iF, KV.down, N, z.n, yb, K, show U.down.row = U.row.down from rfl, Dm, AY, f8, H, h.1, Bool.true_and]
     exact ⟨by simp, rfl⟩
    ·cases h
   ·cases h
  ·rename_i n e W
   have N := O.under_arr W
   split at h
   ·rename_i te J
    have z := bX.of (Z _ _ J)
    split at h
    ·rename_i b g j c
     simp only [real_guard] at h
     rw [cK] at h
     refine ⟨_, h.2, ?_⟩
     simp only [iF, KV.down, N, z.n, yb, f8]
     exact ⟨h.1, rfl⟩
    ·cases h
   ·cases h
  ·cases h
 ·cases h
theorem Id (ht : b9 P tab) {t : TypeId} {x : KV} {lo Z mx : Option Int} {k : bW → Option R} (h : HF (aL R) tab t mem x lo Z mx k = some r) :
  ∃ out, k out = some r ∧ fX P t (aB mem) x.down lo Z mx = some out.down := by
 unfold HF at h
 split at h
 ·rename_i ti hti
  have Y := bX.of (ht _ _ hti)
  split at h
  ·rename_i hk
   have J := Y.under_str hk
   split at h
   ·rename_i s
    rw [cK] at h
    obtain ⟨hm, h⟩ := h
    obtain ⟨b, hb, h⟩ := gT h
    exact ⟨_, h, by simp only [fX, KV.down, J, f8, hm, hb, yn]; exact ⟨trivial, rfl⟩⟩
   ·cases h
  ·rename_i et hk
   have J := Y.under_sl hk
   split at h
   ·rename_i te V
    have z := bX.of (ht _ _ V)
    split at h
    ·rename_i β ag T xs
     rw [cK] at h
     obtain ⟨N, h⟩ := h
     have N := nb.1 N
     obtain ⟨b, hb, h⟩ := gT h
     refine ⟨_, h, ?_⟩
     cases Z : bP ag T with
     | true =>
      obtain ⟨rfl, kk, rfl⟩ := aT.1 Z
      have O : te.n = 1 := N
      show fX P t (aB mem) (.imm β (.ints kk xs)) lo _ mx = _
      have hb' : gK (xs : List Int).length lo _ mx = some b := hb
      exact HQ J (by rw [z.n, O]) hb'
     | false =>
      rw [pQ Z]
      simp only [fX, J, z.n, yb, f8, N, ya2, hb, yn]
      exact ⟨nb.2 rfl, by simp [bW.down, eW, pQ Z, aB, yi3, yj3]⟩
    ·rename_i b g o n
     obtain ⟨K, H, h⟩ := cM h
     rw [cK] at h
     obtain ⟨N, h⟩ := h
     obtain ⟨q, U, h⟩ := gT h
     refine ⟨_, h, ?_⟩
     simp only [fX, KV.down, J, z.n, yb, H, show K.down.row = K.row.down from rfl, Dm, f8, N, U, yn]
     exact ⟨trivial, rfl⟩
    ·rename_i b g
     obtain ⟨K, H, h⟩ := cM h
     rw [cK] at h
     obtain ⟨N, h⟩ := h
     obtain ⟨q, U, h⟩ := gT h
     refine ⟨_, h, ?_⟩
     simp only [fX, KV.down, J, z.n, yb, H, show K.down.row = K.row.down from rfl, Dm, AY, f8, N, U, yn]
     exact ⟨trivial, rfl⟩
    ·obtain ⟨q, U, h⟩ := gT h
     refine ⟨_, h, ?_⟩
     simp only [fX, KV.down, J, z.n, yb, U, yn]; rfl
    ·cases h
   ·cases h
  ·rename_i n e hk
   have J := Y.under_arr hk
   split at h
   ·rename_i te V
    have z := bX.of (ht _ _ V)
    split at h
    ·rename_i b g i c
     rw [cK] at h
     obtain ⟨hg, h⟩ := h
     simp only [yc] at hg
     obtain rfl := nb.1 hg.1
     have O := nb.1 hg.2
     obtain ⟨K, H, h⟩ := cM h
     split at h
     ·rename_i e' cs hrow
      rw [cK] at h
      obtain ⟨W, h⟩ := h
      simp only [yc] at W
      obtain rfl := nb.1 W.1
      obtain ⟨q, U, h⟩ := gT h
      refine ⟨_, h, ?_⟩
      have hd : K.down.row = .cells 1 (KV.downs cs) := by rw [show K.down.row = K.row.down from rfl, hrow]; rfl
      simp only [fX, KV.down, J, z.n, yb, O, f8, H, hd, aK, W.2, U, yn]
      exact ⟨rfl, trivial, rfl⟩
     ·cases h
    ·cases h
   ·cases h
  ·cases h
 ·cases h
theorem zD (cs : List KV) (i : Nat) (v : KV) : KV.downs (cs.set i v) = (KV.downs cs).set i v.down := by simp [cO, List.map_set]
theorem pD : ∀ (vs : List KV) (cs : List KV) (i : Nat), KV.downs (d6 cs i vs) = setCells (KV.downs cs) i (KV.downs vs)
 | [], cs, i => rfl
 | v :: vs, cs, i => by simp only [d6, KV.downs, setCells, pD vs, dM, zD]
def d3 (β : Bool) (cs : List KV) (qs : List PV) : Prop := cs.length = qs.length ∧ ∀ (j : Nat) (v : KV), cs[j]? = some v → ∃ q, qs[j]? = some q ∧ qB β v q
theorem d3.of (β : Bool) (T : Ty) (x : den T) : d3 β (cellsOf β T x) (aS T x) := ⟨by rw [jK.1, bJ], jK.2⟩
theorem d3.set {β : Bool} {cs : List KV} {qs : List PV} (h : d3 β cs qs) {v : KV} {q : PV} (J : qB β v q) (i : Nat) : d3 β (cs.set i v) (qs.set i q) := by
 refine ⟨by simp [h.1], fun j w z => ?_⟩
 by_cases e : j = i
 ·subst e
  have H : j < cs.length := by have := (yf.1 z).1; simpa using this
  rw [ye1 H] at z
  obtain rfl := ya z
  exact ⟨q, ye1 (by rw [← h.1]; exact H), J⟩
 ·rw [yd1 (fun x => e x.symm)] at z
  obtain ⟨p, K, N⟩ := h.2 j w z
  exact ⟨p, by rw [yd1 (fun x => e x.symm)]; exact K, N⟩
theorem d3.setRow {β : Bool} : ∀ {vs : List KV} {ps : List PV} {cs : List KV} {qs : List PV} (i : Nat), d3 β vs ps → d3 β cs qs → d3 β (d6 cs i vs) (mC qs i ps)
 | [], [], cs, qs, i, _, h => h
 | [], p :: ps, cs, qs, i, z, h => by cases z.1
 | v :: vs, [], cs, qs, i, z, h => by cases z.1
 | v :: vs, p :: ps, cs, qs, i, z, h => by
  obtain ⟨q, J, K⟩ := z.2 0 v rfl
  obtain rfl := ya J
  simp only [d6, mC, dM]
  exact d3.setRow (i + 1) ⟨by simpa using z.1, fun j w H => by simpa using z.2 (j + 1) w (by simpa using H)⟩ (h.set K i)
theorem d3.take {β : Bool} {cs : List KV} {qs : List PV} (h : d3 β cs qs) (n : Nat) : d3 β (cs.take n) (qs.take n) := by
 refine ⟨by simp [h.1], fun j v z => ?_⟩
 rw [yh2] at z
 split at z
 ·rename_i H
  obtain ⟨q, J, K⟩ := h.2 j v z
  exact ⟨q, by rw [yh2, if_pos H]; exact J, K⟩
 ·cases z
theorem d3.drop {β : Bool} {cs : List KV} {qs : List PV} (h : d3 β cs qs) (n : Nat) : d3 β (cs.drop n) (qs.drop n) := by
 refine ⟨by simp [h.1], fun j v z => ?_⟩
 rw [ya1] at z ⊢
 exact h.2 _ v z
theorem CQ : ∀ {T : Ty} {cs : List KV} {qs : List PV} {K : den T → Bool → List Nat → Option R}, d3 false cs qs → eB (aL R) mem T cs K = some r → ∃ z β l, K z β l = some r ∧ aS T z = qs
 | .int k, cs, qs, K, H, h => by
  simp only [eB] at h
  split at h
  ·rename_i k' x
   rw [cK] at h
   obtain ⟨q, N, J⟩ := H.2 0 _ rfl
   obtain ⟨O, rfl⟩ := yb2.1 H.1.symm
   obtain rfl := ya N
   refine ⟨x, _, _, h.2, ?_⟩
   obtain rfl := rT.1 h.1
   rcases J with ⟨_, _, e, rfl⟩ | ⟨_, e, _⟩ | ⟨_, e, _⟩ | ⟨_, _, _, e, _⟩ <;> cases e
   rfl
  ·cases h
 | .bool, cs, qs, K, H, h => by
  simp only [eB] at h
  split at h
  ·rename_i x
   obtain ⟨q, N, J⟩ := H.2 0 _ rfl
   obtain ⟨O, rfl⟩ := yb2.1 H.1.symm
   obtain rfl := ya N
   refine ⟨x, _, _, h, ?_⟩
   rcases J with ⟨_, _, e, _⟩ | ⟨_, e, rfl⟩ | ⟨_, e, _⟩ | ⟨_, _, _, e, _⟩ <;> cases e
   rfl
  ·cases h
 | .str, cs, qs, K, H, h => by
  simp only [eB] at h
  split at h
  ·rename_i x
   obtain ⟨q, N, J⟩ := H.2 0 _ rfl
   obtain ⟨O, rfl⟩ := yb2.1 H.1.symm
   obtain rfl := ya N
   refine ⟨x, _, _, h, ?_⟩
   rcases J with ⟨_, _, e, _⟩ | ⟨_, e, _⟩ | ⟨_, e, rfl⟩ | ⟨_, _, _, e, _⟩ <;> cases e
   rfl
  ·cases h
 | .sl ag T, cs, qs, K, H, h => by
  simp only [eB] at h
  split at h
  ·rename_i β Y T' xs
   rw [cK] at h
   obtain ⟨V, h⟩ := h
   obtain rfl := JB.1 V
   split at h
   ·rename_i ys U
    obtain ⟨rfl, rfl⟩ := eZ U
    obtain ⟨q, N, J⟩ := H.2 0 _ rfl
    obtain ⟨O, rfl⟩ := yb2.1 H.1.symm
    obtain rfl := ya N
    refine ⟨xs, _, _, h, ?_⟩
    rcases J with ⟨_, _, e, _⟩ | ⟨_, e, _⟩ | ⟨_, e, _⟩ | ⟨_, _, _, e, rfl⟩ <;> cases e
    rfl
   ·cases h
  ·obtain ⟨q, N, J⟩ := H.2 0 _ rfl
   rcases J with ⟨_, _, e, _⟩ | ⟨_, e, _⟩ | ⟨_, e, _⟩ | ⟨_, _, _, e, _⟩ <;> cases e
  ·obtain ⟨q, N, J⟩ := H.2 0 _ rfl
   rcases J with ⟨_, _, e, _⟩ | ⟨_, e, _⟩ | ⟨_, e, _⟩ | ⟨_, _, _, e, _⟩ <;> cases e
  ·obtain ⟨q, N, J⟩ := H.2 0 _ rfl
   rcases J with ⟨_, _, e, _⟩ | ⟨_, e, _⟩ | ⟨_, e, _⟩ | ⟨_, _, _, e, _⟩ <;> cases e
  ·cases h
 | .cons a b, cs, qs, K, H, h => by
  simp only [eB] at h
  obtain ⟨x, _, _, h, W⟩ := CQ (H.take a.size) h
  obtain ⟨y, β, l, h, U⟩ := CQ (H.drop a.size) h
  exact ⟨(x, y), _, _, h, by simp only [aS, W, U, List.take_append_drop]⟩
theorem pK (mem : aO) : ∀ (l : List Nat), (lD mem l).map (fun q => (q.1, q.2.down)) = bS (aB mem) l
 | [] => rfl
 | b :: l => by
  unfold lD bS
  rw [bO, fT]
  have z := pK mem l
  cases hb : mem[b]? with
  | none => simpa using z
  | some x =>
   cases x with
   | none => simpa using z
   | some x => simp only [yn, yc2, z]; rfl
theorem Eu {ag : Bool} {cs : List PV} (h : ag = true ∨ 2 ≤ cs.length) : fZ ag cs = .agg cs := by
 unfold fZ
 split
 ·rcases h with h | h
  ·cases h
  ·simp at h
 ·rfl
theorem H4 {t : TypeId} {m : aW} {b g i n : Nat} {z : c7} {H : IntKind} {xs : List Int} {v : Int} (N : box? m b g = some z) (K : j0 P t = some n) (O : (!z.frz && Nat.beq (AV.lit (.int H v)).cells.length n) = true) (J : z.row = .ints H xs)
  (U : Nat.ble (i + 1) xs.length = true) : iT P t m (.ptr b g i 0) (.lit (.int H v)) = some { v := .lit undef, rd := [b], wr := [(b, { gen := z.gen, frz := z.frz, row := .ints H (xs.set i v) })] } := by
 simp only [iT, N, K, yb]
 rw [f8]; refine ⟨O, ?_⟩
 rw [J]
 simp only [f8, yc]
 exact ⟨⟨⟨rT.2 rfl, rfl⟩, U⟩, trivial⟩
theorem HR (ht : b9 P tab) {t : TypeId} {a x : KV} {k : bW → Option R} (h : HO (aL R) tab t mem a x k = some r) : ∃ out, k out = some r ∧ iT P t (aB mem) a.down x.down = some out.down := by
 unfold HO at h
 split at h
 ·rename_i ti hti
  have N := bX.of (ht _ _ hti)
  split at h
  ·rename_i b g i c
   have h' := cM h
   clear h
   obtain ⟨U, Y, h⟩ := h'
   rw [cK] at h
   obtain ⟨hg, h⟩ := h
   simp only [yc] at hg
   have hlen := nb.1 hg.2
   have W : (!U.down.frz && Nat.beq x.down.cells.length ti.n) = true := by
    rw [dR, aK, hlen]; simpa [eI.down] using hg.1
   split at h
   ·rename_i e cs O
    have hd : U.down.row = .cells e (KV.downs cs) := by rw [show U.down.row = U.row.down from rfl, O]; rfl
    cases K : Nat.beq ti.n 1 with
    | true =>
     rw [K] at h; simp only [yg] at h
     split at h
     ·rename_i v hv
      rw [cK] at h
      obtain ⟨h1, h⟩ := h
      obtain ⟨_, hlt, h⟩ := z0 h
      refine ⟨_, h, ?_⟩
      have K := nb.1 K
      simp only [KV.down, iT, Y, yb, N.n]
      rw [f8]; refine ⟨W, ?_⟩
      rw [hd]
      simp only [f8, dR, hv, aK, yc]
      refine ⟨⟨nl.2 (by omega), by simp [KV.downs, jG, Dd h1]⟩, ?_⟩
      simp [bW.down, KV.down, KV.downs, eI.down, KRow.down, setCells, zD, aB]
     ·cases h
    | false =>
     rw [K] at h; simp only [yh] at h
     rw [cK] at h
     obtain ⟨h1, h⟩ := h
     simp only [yc] at h1
     refine ⟨_, h, ?_⟩
     simp only [KV.down, iT, Y, yb, N.n]
     rw [f8]; refine ⟨W, ?_⟩
     rw [hd]
     simp only [f8, dR, aK, yc]
     refine ⟨⟨h1.1, gD h1.2⟩, ?_⟩
     simp [bW.down, KV.down, eI.down, KRow.down, pD, aB]
   ·rename_i β ag T xs O
    have hd : U.down.row = (KRow.ts β ag T xs).down := by rw [show U.down.row = U.row.down from rfl, O]
    cases hi : bP ag T with
    | true =>
     rw [hi] at h; simp only [yg] at h
     split at h
     ·rename_i kd v
      rw [cK] at h
      obtain ⟨J, h⟩ := h
      simp only [yc] at J
      obtain rfl := nb.1 J.1
      have K := nb.1 J.2
      split at h
      ·rename_i z V
       obtain ⟨rfl, rfl⟩ := kQ (F := den) V
       simp only [real_guard] at h
       rw [cK] at h
       refine ⟨_, h.2, ?_⟩
       obtain ⟨rfl, _⟩ := aT.1 hi
       have hd' : U.down.row = .ints kd xs := hd
       exact H4 Y N.n W hd' h.1
      ·cases h
     ·cases h
    | false =>
     rw [hi] at h; simp only [yh] at h
     rw [cK] at h
     obtain ⟨J, h⟩ := h
     have J := nl.1 J
     rw [KRow.down_sl hi] at hd
     split at h
     ·rename_i Z hT'
      obtain ⟨y, β', l, h, hpv⟩ := BJ N hT' h
      cases hmb : f7 b l with
      | true => rw [hmb] at h; cases h
      | false =>
       rw [hmb] at h; simp only [yh] at h
       have fin : ∀ {p : PV} {z : den T}, (xs.map (eF ag T))[i]? = some p → p.cells.length = T.size → eF ag T z = (bif Nat.beq ti.n T.size && Nat.beq c 0 then eF ti.ag Z y else .agg (mC p.cells c (eF ti.ag Z y).cells)) →
         k ⟨.lit undef, b :: l, lD mem l ++ [(b, ⟨U.gen, U.frz, .ts (β || β') ag T (xs.set i z)⟩)], []⟩ = some r → ∃ out, k out = some r ∧ iT P t (aB mem) (KV.ptr b g i c).down x.down = some out.down := by
        intro p z hp hpl V hk
        refine ⟨_, hk, ?_⟩
        simp only [KV.down, iT, Y, yb, N.n]
        rw [f8]; refine ⟨W, ?_⟩
        rw [hd]
        simp only [hp, hpv, yb, f8, yc]
        refine ⟨⟨⟨nl.2 J, nb.2 hpl⟩, by rw [hmb]; rfl⟩, ?_⟩
        rw [← V]
        refine congrArg some ?_
        simp only [bW.down, List.map_append, pK, yc2, List.map_nil]
        simp [KV.down, eI.down, KRow.down_sl hi, aB, List.map_set]
       cases H : Nat.beq c 0 && Nat.beq ti.n T.size with
       | true =>
        rw [H] at h; simp only [yg] at h
        split at h
        ·rename_i z V
         rw [cK] at V
         obtain ⟨hag, V⟩ := V
         have hag := JB.1 hag
         obtain ⟨rfl, rfl⟩ := kQ (F := den) V
         simp only [real_guard] at h
         rw [cK] at h
         have hlt := nl.1 h.1
         have hx : (xs.map (eF ag Z))[i]? = some (eF ag Z xs[i]) := by rw [yc1, ye (by omega)]; rfl
         refine fin hx (by rw [cR, bJ]) ?_ h.2
         rw [Bool.and_comm, H, hag]; rfl
        ·cases h
       | false =>
        rw [H] at h; simp only [yh, real_getN] at h
        rw [Jc] at h
        obtain ⟨p, hp, h⟩ := h
        obtain ⟨z, _, _, h, V⟩ := CQ (d3.setRow c (d3.of false Z y) (d3.of false T p)) h
        refine fin (p := eF ag T p) (by rw [yc1, hp]; rfl) (by rw [cR, bJ]) ?_ h
        rw [Bool.and_comm, H]
        simp only [yh, cR]
        rw [← V]
        have hsz : ag = true ∨ 2 ≤ T.size := by
         cases ag with
         | true => exact .inl rfl
         | false =>
          right
          have h1 := Ty.size_pos (T := T)
          have h2 := (N.ty Z hT').2.1
          have h3 := Ty.size_pos (T := Z)
          rcases yu1 T.size 2 with hlt | hge
          ·exfalso
           have hc0 : c = 0 := by omega
           have K : ti.n = T.size := by omega
           rw [hc0, K] at H
           simp at H
          ·exact hge
        exact Eu (hsz.imp id fun h => by rw [bJ]; exact h)
     ·cases h
  ·cases h
 ·cases h
end
end Go.Ab
