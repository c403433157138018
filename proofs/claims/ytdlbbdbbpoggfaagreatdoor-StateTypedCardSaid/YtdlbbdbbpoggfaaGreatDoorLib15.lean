import Derived.Test.YtdlbbdbbpoggfaaGreatDoorLib14
set_option linter.unusedVariables false
set_option linter.unusedSectionVars false
set_option linter.unusedSimpArgs false
namespace Go.Ab
variable [cD]
section
variable {P : Program} {R : Type} {r : R} {mem : aR} {tab : TypeId → Option TI}
theorem cA.under_sl {t : TypeId} {A : TI} {H : TypeId} (h : cA P t A) (J : A.tk = .sl H) : P.underlying t = some (.slice H) := by
 have := h.tk
 unfold mZ at this
 rw [J] at this
 cases z : P.underlying t with
 | none => rw [z] at this; simp at this
 | some d => rw [z] at this; cases d <;> simp_all [nb]
theorem cA.under_arr {t : TypeId} {A : TI} {n : Nat} {e : TypeId} (h : cA P t A) (H : A.tk = .arr n e) : P.underlying t = some (.array n e) := by
 have := h.tk
 unfold mZ at this
 rw [H] at this
 cases z : P.underlying t with
 | none => rw [z] at this; simp at this
 | some d => rw [z] at this; cases d <;> simp_all [nb]
theorem cA.under_str {t : TypeId} {A : TI} (h : cA P t A) (H : A.tk = .str) : P.underlying t = some .string := by
 have := h.tk
 unfold mZ at this
 rw [H] at this
 cases z : P.underlying t with
 | none => rw [z] at this; simp at this
 | some d => rw [z] at this; cases d <;> simp_all
theorem cA.under_int {t : TypeId} {A : TI} {k : IntKind} (h : cA P t A) (H : A.tk = .int k) : P.underlying t = some (.int k) := by
 have := h.tk
 unfold mZ at this
 rw [H] at this
 cases z : P.underlying t with
 | none => rw [z] at this; simp at this
 | some d => rw [z] at this; cases d <;> simp_all [vJ]
theorem cA.under_st {t : TypeId} {A : TI} {fs : List (Nat × Nat × TypeId)} (h : cA P t A) (H : A.tk = .st fs) : ∃ l, P.underlying t = some (.struct l) ∧ Bz P fs l.toList = true := by
 have := h.tk
 unfold mZ at this
 rw [H] at this
 cases z : P.underlying t with
 | none => rw [z] at this; simp at this
 | some d => rw [z] at this; cases d <;> simp_all
theorem qZ {β ag : Bool} {T : Ty} {xs : List (den T)} (h : bT ag T = false) : (KV.tsl β ag T xs).down = .imm β (.sl T.size (xs.map (fI ag T))) := by simp only [KV.down, d6 h]
theorem NP {α β : Type} (f : α → β) (xs : List α) (i : Int) : aD (xs.map f) i = (aD xs i).map f := by
 unfold aD
 cases decide (0 ≤ i) <;> simp
theorem JE {t h : TypeId} {m : a9} {β : Bool} {z : IntKind} {xs : List Int} {i v : Int} (A : P.underlying t = some (.slice h)) (hn : k7 P h = some 1) (H : aD xs i = some v) :
  i7 P t m (.imm β (.ints z xs)) i = some { v := .el β (.lit (.int z v)) 0 } := by simp [i7, A, hn, H, guardB]
theorem J1 {t A : TypeId} {m : a9} {β : Bool} {H : IntKind} {xs : List Int} {h z J : Option Int} {b : Nat × Nat} (M : P.underlying t = some (.slice A)) (hn : k7 P A = some 1) (K : iC xs.length h z J = some b) :
  gR P t m (.imm β (.ints H xs)) h z J = some { v := .imm β (.ints H ((xs.take b.2).drop b.1)) } := by simp [gR, M, hn, K, guardB]
theorem JS (ht : cF P tab) {t : TypeId} {x : KV} {i : Int} {k : bY → Option R} (h : JC (bI R) tab t mem x i k = some r) : ∃ out, k out = some r ∧ i7 P t (aF mem) x.down i = some out.down := by
 unfold JC at h
 split at h
 ·rename_i ti N
  have M := cA.of (ht _ _ N)
  split at h
  ·rename_i et U
   have J := M.under_sl U
   split at h
   ·rename_i Y A
    have z := cA.of (ht _ _ A)
    split at h
    ·rename_i β ag T xs
     rw [c9] at h
     obtain ⟨hn, h⟩ := h
     have hn := nb.1 hn
     simp only [real_get] at h
     rw [LM] at h
     obtain ⟨v, W, h⟩ := h
     refine ⟨_, h, ?_⟩
     cases Z : bT ag T with
     | true =>
      obtain ⟨rfl, kk, rfl⟩ := aX.1 Z
      have V : Y.n = 1 := hn
      show i7 P t (aF mem) (.imm β (.ints kk xs)) i = _
      have O : aD (xs : List Int) i = some v := W
      exact JE J (by rw [z.n, V]) O
     | false =>
      rw [qZ Z]
      simp only [i7, J, z.n, ya, h9, hn, NP, W, yo]
      exact ⟨nb.2 rfl, rfl⟩
    ·rename_i b g o n
     obtain ⟨K, H, h⟩ := c7 h
     rw [c9] at h
     obtain ⟨hn, h⟩ := h
     simp only [real_guard] at h
     rw [c9] at h
     refine ⟨_, h.2, ?_⟩
     simp only [i7, KV.down, J, z.n, ya, H, show K.down.row = K.row.down from rfl, Fr, h9, hn, h.1, yu]
     exact ⟨by simp, rfl⟩
    ·rename_i b g
     obtain ⟨K, H, h⟩ := c7 h
     rw [c9] at h
     obtain ⟨hn, h⟩ := h
     simp only [real_guard] at h
     rw [c9] at h
     refine ⟨_, h.2, ?_⟩
     simp only [i7, KV.down, J, z.n, ya, H, show K.down.row = K.row.down from rfl, Fr, Cg, h9, hn, h.1, yu]
     exact ⟨by simp, rfl⟩
    ·cases h
   ·cases h
  ·rename_i n e U
   have J := M.under_arr U
   split at h
   ·rename_i Y A
    have z := cA.of (ht _ _ A)
    split at h
    ·rename_i b g j c
     simp only [real_guard] at h
     rw [c9] at h
     refine ⟨_, h.2, ?_⟩
     simp only [i7, KV.down, J, z.n, ya, h9]
     exact ⟨h.1, rfl⟩
    ·cases h
   ·cases h
  ·cases h
 ·cases h
theorem Kb (ht : cF P tab) {t : TypeId} {x : KV} {Z V mx : Option Int} {k : bY → Option R} (h : Ji (bI R) tab t mem x Z V mx k = some r) :
  ∃ out, k out = some r ∧ gR P t (aF mem) x.down Z V mx = some out.down := by
 unfold Ji at h
 split at h
 ·rename_i ti hti
  have O := cA.of (ht _ _ hti)
  split at h
  ·rename_i W
   have H := O.under_str W
   split at h
   ·rename_i s
    rw [c9] at h
    obtain ⟨hm, h⟩ := h
    obtain ⟨b, hb, h⟩ := iS h
    exact ⟨_, h, by simp only [gR, KV.down, H, h9, hm, hb, yo]; exact ⟨trivial, rfl⟩⟩
   ·cases h
  ·rename_i et W
   have H := O.under_sl W
   split at h
   ·rename_i te M
    have z := cA.of (ht _ _ M)
    split at h
    ·rename_i β ag T xs
     rw [c9] at h
     obtain ⟨hn, h⟩ := h
     have hn := nb.1 hn
     obtain ⟨b, hb, h⟩ := iS h
     refine ⟨_, h, ?_⟩
     cases V : bT ag T with
     | true =>
      obtain ⟨rfl, kk, rfl⟩ := aX.1 V
      have U : te.n = 1 := hn
      show gR P t (aF mem) (.imm β (.ints kk xs)) Z _ mx = _
      have hb' : iC (xs : List Int).length Z _ mx = some b := hb
      exact J1 H (by rw [z.n, U]) hb'
     | false =>
      rw [qZ V]
      simp only [gR, H, z.n, ya, h9, hn, ye2, hb, yo]
      exact ⟨nb.2 rfl, by simp [bY.down, fT, qZ V, aF, ym3, yn3]⟩
    ·rename_i b g o n
     obtain ⟨J, A, h⟩ := c7 h
     rw [c9] at h
     obtain ⟨hn, h⟩ := h
     obtain ⟨q, K, h⟩ := iS h
     refine ⟨_, h, ?_⟩
     simp only [gR, KV.down, H, z.n, ya, A, show J.down.row = J.row.down from rfl, Fr, h9, hn, K, yo]
     exact ⟨trivial, rfl⟩
    ·rename_i b g
     obtain ⟨J, A, h⟩ := c7 h
     rw [c9] at h
     obtain ⟨hn, h⟩ := h
     obtain ⟨q, K, h⟩ := iS h
     refine ⟨_, h, ?_⟩
     simp only [gR, KV.down, H, z.n, ya, A, show J.down.row = J.row.down from rfl, Fr, Cg, h9, hn, K, yo]
     exact ⟨trivial, rfl⟩
    ·obtain ⟨q, K, h⟩ := iS h
     refine ⟨_, h, ?_⟩
     simp only [gR, KV.down, H, z.n, ya, K, yo]; rfl
    ·cases h
   ·cases h
  ·rename_i n e W
   have H := O.under_arr W
   split at h
   ·rename_i te M
    have z := cA.of (ht _ _ M)
    split at h
    ·rename_i b g i c
     rw [c9] at h
     obtain ⟨hg, h⟩ := h
     simp only [yc] at hg
     obtain rfl := nb.1 hg.1
     have U := nb.1 hg.2
     obtain ⟨J, A, h⟩ := c7 h
     split at h
     ·rename_i e' cs Y
      rw [c9] at h
      obtain ⟨N, h⟩ := h
      simp only [yc] at N
      obtain rfl := nb.1 N.1
      obtain ⟨q, K, h⟩ := iS h
      refine ⟨_, h, ?_⟩
      have hd : J.down.row = .cells 1 (KV.downs cs) := by rw [show J.down.row = J.row.down from rfl, Y]; rfl
      simp only [gR, KV.down, H, z.n, ya, U, h9, A, hd, aP, N.2, K, yo]
      exact ⟨rfl, trivial, rfl⟩
     ·cases h
    ·cases h
   ·cases h
  ·cases h
 ·cases h
theorem AJ (cs : List KV) (i : Nat) (v : KV) : KV.downs (cs.set i v) = (KV.downs cs).set i v.down := by simp [dE, List.map_set]
theorem rT : ∀ (vs : List KV) (cs : List KV) (i : Nat), KV.downs (eU cs i vs) = setCells (KV.downs cs) i (KV.downs vs)
 | [], cs, i => rfl
 | v :: vs, cs, i => by simp only [eU, KV.downs, setCells, rT vs, eF, AJ]
def eS (β : Bool) (cs : List KV) (qs : List PV) : Prop := cs.length = qs.length ∧ ∀ (j : Nat) (v : KV), cs[j]? = some v → ∃ q, qs[j]? = some q ∧ rB β v q
theorem eS.of (β : Bool) (T : Ty) (x : den T) : eS β (cellsOf β T x) (aV T x) := ⟨by rw [kG.1, bO], kG.2⟩
theorem eS.set {β : Bool} {cs : List KV} {qs : List PV} (h : eS β cs qs) {v : KV} {q : PV} (H : rB β v q) (i : Nat) : eS β (cs.set i v) (qs.set i q) := by
 refine ⟨by simp [h.1], fun j w z => ?_⟩
 by_cases e : j = i
 ·subst e
  have hl : j < cs.length := by have := (yh.1 z).1; simpa using this
  rw [yf1 hl] at z
  obtain rfl := yb z
  exact ⟨q, yf1 (by rw [← h.1]; exact hl), H⟩
 ·rw [yg1 (fun x => e x.symm)] at z
  obtain ⟨p, A, J⟩ := h.2 j w z
  exact ⟨p, by rw [yg1 (fun x => e x.symm)]; exact A, J⟩
theorem eS.setRow {β : Bool} : ∀ {vs : List KV} {ps : List PV} {cs : List KV} {qs : List PV} (i : Nat), eS β vs ps → eS β cs qs → eS β (eU cs i vs) (nY qs i ps)
 | [], [], cs, qs, i, _, h => h
 | [], p :: ps, cs, qs, i, z, h => by cases z.1
 | v :: vs, [], cs, qs, i, z, h => by cases z.1
 | v :: vs, p :: ps, cs, qs, i, z, h => by
  obtain ⟨q, A, J⟩ := z.2 0 v rfl
  obtain rfl := yb A
  simp only [eU, nY, eF]
  exact eS.setRow (i + 1) ⟨by simpa using z.1, fun j w H => by simpa using z.2 (j + 1) w (by simpa using H)⟩ (h.set J i)
theorem eS.take {β : Bool} {cs : List KV} {qs : List PV} (h : eS β cs qs) (n : Nat) : eS β (cs.take n) (qs.take n) := by
 refine ⟨by simp [h.1], fun j v z => ?_⟩
 rw [yo2] at z
 split at z
 ·rename_i A
  obtain ⟨q, H, J⟩ := h.2 j v z
  exact ⟨q, by rw [yo2, if_pos A]; exact H, J⟩
 ·cases z
theorem eS.drop {β : Bool} {cs : List KV} {qs : List PV} (h : eS β cs qs) (n : Nat) : eS β (cs.drop n) (qs.drop n) := by
 refine ⟨by simp [h.1], fun j v z => ?_⟩
 rw [yd1] at z ⊢
 exact h.2 _ v z
theorem Cu : ∀ {T : Ty} {cs : List KV} {qs : List PV} {K : den T → Bool → List Nat → Option R}, eS false cs qs → fC (bI R) mem T cs K = some r → ∃ z β l, K z β l = some r ∧ aV T z = qs
 | .int k, cs, qs, K, A, h => by
  simp only [fC] at h
  split at h
  ·rename_i k' x
   rw [c9] at h
   obtain ⟨q, J, H⟩ := A.2 0 _ rfl
   obtain ⟨N, rfl⟩ := yh2.1 A.1.symm
   obtain rfl := yb J
   refine ⟨x, _, _, h.2, ?_⟩
   obtain rfl := vJ.1 h.1
   rcases H with ⟨_, _, e, rfl⟩ | ⟨_, e, _⟩ | ⟨_, e, _⟩ | ⟨_, _, _, e, _⟩ <;> cases e
   rfl
  ·cases h
 | .bool, cs, qs, K, A, h => by
  simp only [fC] at h
  split at h
  ·rename_i x
   obtain ⟨q, J, H⟩ := A.2 0 _ rfl
   obtain ⟨N, rfl⟩ := yh2.1 A.1.symm
   obtain rfl := yb J
   refine ⟨x, _, _, h, ?_⟩
   rcases H with ⟨_, _, e, _⟩ | ⟨_, e, rfl⟩ | ⟨_, e, _⟩ | ⟨_, _, _, e, _⟩ <;> cases e
   rfl
  ·cases h
 | .str, cs, qs, K, A, h => by
  simp only [fC] at h
  split at h
  ·rename_i x
   obtain ⟨q, J, H⟩ := A.2 0 _ rfl
   obtain ⟨N, rfl⟩ := yh2.1 A.1.symm
   obtain rfl := yb J
   refine ⟨x, _, _, h, ?_⟩
   rcases H with ⟨_, _, e, _⟩ | ⟨_, e, _⟩ | ⟨_, e, rfl⟩ | ⟨_, _, _, e, _⟩ <;> cases e
   rfl
  ·cases h
 | .sl ag T, cs, qs, K, A, h => by
  simp only [fC] at h
  split at h
  ·rename_i β O T' xs
   rw [c9] at h
   obtain ⟨U, h⟩ := h
   obtain rfl := Mj.1 U
   split at h
   ·rename_i ys M
    obtain ⟨rfl, rfl⟩ := gA M
    obtain ⟨q, J, H⟩ := A.2 0 _ rfl
    obtain ⟨N, rfl⟩ := yh2.1 A.1.symm
    obtain rfl := yb J
    refine ⟨xs, _, _, h, ?_⟩
    rcases H with ⟨_, _, e, _⟩ | ⟨_, e, _⟩ | ⟨_, e, _⟩ | ⟨_, _, _, e, rfl⟩ <;> cases e
    rfl
   ·cases h
  ·obtain ⟨q, J, H⟩ := A.2 0 _ rfl
   rcases H with ⟨_, _, e, _⟩ | ⟨_, e, _⟩ | ⟨_, e, _⟩ | ⟨_, _, _, e, _⟩ <;> cases e
  ·obtain ⟨q, J, H⟩ := A.2 0 _ rfl
   rcases H with ⟨_, _, e, _⟩ | ⟨_, e, _⟩ | ⟨_, e, _⟩ | ⟨_, _, _, e, _⟩ <;> cases e
  ·obtain ⟨q, J, H⟩ := A.2 0 _ rfl
   rcases H with ⟨_, _, e, _⟩ | ⟨_, e, _⟩ | ⟨_, e, _⟩ | ⟨_, _, _, e, _⟩ <;> cases e
  ·cases h
 | .cons a b, cs, qs, K, A, h => by
  simp only [fC] at h
  obtain ⟨x, _, _, h, hx⟩ := Cu (A.take a.size) h
  obtain ⟨y, β, l, h, M⟩ := Cu (A.drop a.size) h
  exact ⟨(x, y), _, _, h, by simp only [aV, hx, M, List.take_append_drop]⟩
theorem rS (mem : aR) : ∀ (l : List Nat), (mV mem l).map (fun q => (q.1, q.2.down)) = bW (aF mem) l
 | [] => rfl
 | b :: l => by
  unfold mV bW
  rw [bU, gJ]
  have h := rS mem l
  cases hb : mem[b]? with
  | none => simpa using h
  | some x =>
   cases x with
   | none => simpa using h
   | some x => simp only [yo, yi2, h]; rfl
theorem Gw {ag : Bool} {cs : List PV} (h : ag = true ∨ 2 ≤ cs.length) : gU ag cs = .agg cs := by
 unfold gU
 split
 ·rcases h with h | h
  ·cases h
  ·simp at h
 ·rfl
theorem JP {t : TypeId} {m : a9} {b g i n : Nat} {h : d8} {z : IntKind} {xs : List Int} {v : Int} (A : box? m b g = some h) (hn : k7 P t = some n) (hf : (!h.frz && Nat.beq (AV.lit (.int z v)).cells.length n) = true) (H : h.row = .ints z xs)
  (J : Nat.ble (i + 1) xs.length = true) : jO P t m (.ptr b g i 0) (.lit (.int z v)) = some { v := .lit undef, rd := [b], wr := [(b, { gen := h.gen, frz := h.frz, row := .ints z (xs.set i v) })] } := by
 simp only [jO, A, hn, ya]
 rw [h9]; refine ⟨hf, ?_⟩
 rw [H]
 simp only [h9, yc]
 exact ⟨⟨⟨vJ.2 rfl, rfl⟩, J⟩, trivial⟩
theorem Kf (ht : cF P tab) {t : TypeId} {a x : KV} {k : bY → Option R} (h : J6 (bI R) tab t mem a x k = some r) : ∃ out, k out = some r ∧ jO P t (aF mem) a.down x.down = some out.down := by
 unfold J6 at h
 split at h
 ·rename_i ti hti
  have K := cA.of (ht _ _ hti)
  split at h
  ·rename_i b g i c
   have h' := c7 h
   clear h
   obtain ⟨N, V, h⟩ := h'
   rw [c9] at h
   obtain ⟨hg, h⟩ := h
   simp only [yc] at hg
   have hlen := nb.1 hg.2
   have U : (!N.down.frz && Nat.beq x.down.cells.length ti.n) = true := by
    rw [eK, aP, hlen]; simpa [fJ.down] using hg.1
   split at h
   ·rename_i e cs M
    have hd : N.down.row = .cells e (KV.downs cs) := by rw [show N.down.row = N.row.down from rfl, M]; rfl
    cases J : Nat.beq ti.n 1 with
    | true =>
     rw [J] at h; simp only [yg] at h
     split at h
     ·rename_i v hv
      rw [c9] at h
      obtain ⟨h1, h⟩ := h
      obtain ⟨_, hlt, h⟩ := BN h
      refine ⟨_, h, ?_⟩
      have J := nb.1 J
      simp only [KV.down, jO, V, ya, K.n]
      rw [h9]; refine ⟨U, ?_⟩
      rw [hd]
      simp only [h9, eK, hv, aP, yc]
      refine ⟨⟨nl.2 (by omega), by simp [KV.downs, kF, Fq h1]⟩, ?_⟩
      simp [bY.down, KV.down, KV.downs, fJ.down, KRow.down, setCells, AJ, aF]
     ·cases h
    | false =>
     rw [J] at h; simp only [ye] at h
     rw [c9] at h
     obtain ⟨h1, h⟩ := h
     simp only [yc] at h1
     refine ⟨_, h, ?_⟩
     simp only [KV.down, jO, V, ya, K.n]
     rw [h9]; refine ⟨U, ?_⟩
     rw [hd]
     simp only [h9, eK, aP, yc]
     refine ⟨⟨h1.1, iF h1.2⟩, ?_⟩
     simp [bY.down, KV.down, fJ.down, KRow.down, rT, aF]
   ·rename_i β ag T xs M
    have hd : N.down.row = (KRow.ts β ag T xs).down := by rw [show N.down.row = N.row.down from rfl, M]
    cases hi : bT ag T with
    | true =>
     rw [hi] at h; simp only [yg] at h
     split at h
     ·rename_i kd v
      rw [c9] at h
      obtain ⟨H, h⟩ := h
      simp only [yc] at H
      obtain rfl := nb.1 H.1
      have J := nb.1 H.2
      split at h
      ·rename_i z O
       obtain ⟨rfl, rfl⟩ := l7 (F := den) O
       simp only [real_guard] at h
       rw [c9] at h
       refine ⟨_, h.2, ?_⟩
       obtain ⟨rfl, _⟩ := aX.1 hi
       have hd' : N.down.row = .ints kd xs := hd
       exact JP V K.n U hd' h.1
      ·cases h
     ·cases h
    | false =>
     rw [hi] at h; simp only [ye] at h
     rw [c9] at h
     obtain ⟨H, h⟩ := h
     have H := nl.1 H
     rw [KRow.down_sl hi] at hd
     split at h
     ·rename_i Z hT'
      obtain ⟨y, β', l, h, hpv⟩ := Cv K hT' h
      cases Y : gT b l with
      | true => rw [Y] at h; cases h
      | false =>
       rw [Y] at h; simp only [ye] at h
       have fin : ∀ {p : PV} {z : den T}, (xs.map (fI ag T))[i]? = some p → p.cells.length = T.size → fI ag T z = (bif Nat.beq ti.n T.size && Nat.beq c 0 then fI ti.ag Z y else .agg (nY p.cells c (fI ti.ag Z y).cells)) →
         k ⟨.lit undef, b :: l, mV mem l ++ [(b, ⟨N.gen, N.frz, .ts (β || β') ag T (xs.set i z)⟩)], []⟩ = some r → ∃ out, k out = some r ∧ jO P t (aF mem) (KV.ptr b g i c).down x.down = some out.down := by
        intro p z hp hpl O hk
        refine ⟨_, hk, ?_⟩
        simp only [KV.down, jO, V, ya, K.n]
        rw [h9]; refine ⟨U, ?_⟩
        rw [hd]
        simp only [hp, hpv, ya, h9, yc]
        refine ⟨⟨⟨nl.2 H, nb.2 hpl⟩, by rw [Y]; rfl⟩, ?_⟩
        rw [← O]
        refine congrArg some ?_
        simp only [bY.down, List.map_append, rS, yi2, List.map_nil]
        simp [KV.down, fJ.down, KRow.down_sl hi, aF, List.map_set]
       cases A : Nat.beq c 0 && Nat.beq ti.n T.size with
       | true =>
        rw [A] at h; simp only [yg] at h
        split at h
        ·rename_i z O
         rw [c9] at O
         obtain ⟨W, O⟩ := O
         have W := Mj.1 W
         obtain ⟨rfl, rfl⟩ := l7 (F := den) O
         simp only [real_guard] at h
         rw [c9] at h
         have hlt := nl.1 h.1
         have hx : (xs.map (fI ag Z))[i]? = some (fI ag Z xs[i]) := by rw [yh1, yd (by omega)]; rfl
         refine fin hx (by rw [dI, bO]) ?_ h.2
         rw [Bool.and_comm, A, W]; rfl
        ·cases h
       | false =>
        rw [A] at h; simp only [ye, real_getN] at h
        rw [LM] at h
        obtain ⟨p, hp, h⟩ := h
        obtain ⟨z, _, _, h, O⟩ := Cu (eS.setRow c (eS.of false Z y) (eS.of false T p)) h
        refine fin (p := fI ag T p) (by rw [yh1, hp]; rfl) (by rw [dI, bO]) ?_ h
        rw [Bool.and_comm, A]
        simp only [ye, dI]
        rw [← O]
        have hsz : ag = true ∨ 2 ≤ T.size := by
         cases ag with
         | true => exact .inl rfl
         | false =>
          right
          have h1 := Ty.size_pos (T := T)
          have h2 := (K.ty Z hT').2.1
          have h3 := Ty.size_pos (T := Z)
          rcases ya2 T.size 2 with hlt | hge
          ·exfalso
           have hc0 : c = 0 := by omega
           have J : ti.n = T.size := by omega
           rw [hc0, J] at A
           simp at A
          ·exact hge
        exact Gw (hsz.imp id fun h => by rw [bO]; exact h)
     ·cases h
  ·cases h
 ·cases h
end
end Go.Ab
