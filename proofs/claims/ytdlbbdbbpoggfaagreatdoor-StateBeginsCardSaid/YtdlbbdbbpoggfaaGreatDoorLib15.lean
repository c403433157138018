import Derived.Test.YtdlbbdbbpoggfaaGreatDoorLib14
set_option linter.unusedVariables false
set_option linter.unusedSectionVars false
set_option linter.unusedSimpArgs false
namespace Go.Ab
variable [cD]
section
variable {P : Program} {R : Type} {r : R} {mem : aR} {tab : TypeId → Option TI}
theorem b8.under_sl {t : TypeId} {z : TI} {A : TypeId} (h : b8 P t z) (J : z.tk = .sl A) : P.underlying t = some (.slice A) := by
 have := h.tk
 unfold mT at this
 rw [J] at this
 cases H : P.underlying t with
 | none => rw [H] at this; simp at this
 | some d => rw [H] at this; cases d <;> simp_all [nb]
theorem b8.under_arr {t : TypeId} {z : TI} {n : Nat} {e : TypeId} (h : b8 P t z) (H : z.tk = .arr n e) : P.underlying t = some (.array n e) := by
 have := h.tk
 unfold mT at this
 rw [H] at this
 cases A : P.underlying t with
 | none => rw [A] at this; simp at this
 | some d => rw [A] at this; cases d <;> simp_all [nb]
theorem b8.under_str {t : TypeId} {z : TI} (h : b8 P t z) (H : z.tk = .str) : P.underlying t = some .string := by
 have := h.tk
 unfold mT at this
 rw [H] at this
 cases A : P.underlying t with
 | none => rw [A] at this; simp at this
 | some d => rw [A] at this; cases d <;> simp_all
theorem b8.under_int {t : TypeId} {z : TI} {k : IntKind} (h : b8 P t z) (H : z.tk = .int k) : P.underlying t = some (.int k) := by
 have := h.tk
 unfold mT at this
 rw [H] at this
 cases A : P.underlying t with
 | none => rw [A] at this; simp at this
 | some d => rw [A] at this; cases d <;> simp_all [vV]
theorem b8.under_st {t : TypeId} {z : TI} {fs : List (Nat × Nat × TypeId)} (h : b8 P t z) (H : z.tk = .st fs) : ∃ l, P.underlying t = some (.struct l) ∧ Bu P fs l.toList = true := by
 have := h.tk
 unfold mT at this
 rw [H] at this
 cases A : P.underlying t with
 | none => rw [A] at this; simp at this
 | some d => rw [A] at this; cases d <;> simp_all
theorem qT {β ag : Bool} {T : Ty} {xs : List (den T)} (h : bT ag T = false) : (KV.tsl β ag T xs).down = .imm β (.sl T.size (xs.map (fK ag T))) := by simp only [KV.down, d7 h]
theorem Nt {α β : Type} (f : α → β) (xs : List α) (i : Int) : aD (xs.map f) i = (aD xs i).map f := by
 unfold aD
 cases decide (0 ≤ i) <;> simp
theorem Jh {t z : TypeId} {m : a9} {β : Bool} {h : IntKind} {xs : List Int} {i v : Int} (H : P.underlying t = some (.slice z)) (hn : k6 P z = some 1) (A : aD xs i = some v) :
  jG P t m (.imm β (.ints h xs)) i = some { v := .el β (.lit (.int h v)) 0 } := by simp [jG, H, hn, A, guardB]
theorem Kt {t H : TypeId} {m : a9} {β : Bool} {A : IntKind} {xs : List Int} {h J z : Option Int} {b : Nat × Nat} (M : P.underlying t = some (.slice H)) (hn : k6 P H = some 1) (K : iG xs.length h J z = some b) :
  gQ P t m (.imm β (.ints A xs)) h J z = some { v := .imm β (.ints A ((xs.take b.2).drop b.1)) } := by simp [gQ, M, hn, K, guardB]
theorem Kf (ht : cF P tab) {t : TypeId} {x : KV} {i : Int} {k : bY → Option R} (h : Kg (bI R) tab t mem x i k = some r) : ∃ out, k out = some r ∧ jG P t (aF mem) x.down i = some out.down := by
 unfold Kg at h
 split at h
 ·rename_i ti N
  have M := b8.of (ht _ _ N)
  split at h
  ·rename_i et V
   have J := M.under_sl V
   split at h
   ·rename_i W H
    have z := b8.of (ht _ _ H)
    split at h
    ·rename_i β ag T xs
     rw [c9] at h
     obtain ⟨hn, h⟩ := h
     have hn := nb.1 hn
     simp only [real_get] at h
     rw [Lz] at h
     obtain ⟨v, Z, h⟩ := h
     refine ⟨_, h, ?_⟩
     cases Y : bT ag T with
     | true =>
      obtain ⟨rfl, kk, rfl⟩ := aX.1 Y
      have O : W.n = 1 := hn
      show jG P t (aF mem) (.imm β (.ints kk xs)) i = _
      have U : aD (xs : List Int) i = some v := Z
      exact Jh J (by rw [z.n, O]) U
     | false =>
      rw [qT Y]
      simp only [jG, J, z.n, ya, g8, hn, Nt, Z, yo]
      exact ⟨nb.2 rfl, rfl⟩
    ·rename_i b g o n
     obtain ⟨K, A, h⟩ := cY h
     rw [c9] at h
     obtain ⟨hn, h⟩ := h
     simp only [real_guard] at h
     rw [c9] at h
     refine ⟨_, h.2, ?_⟩
     simp only [jG, KV.down, J, z.n, ya, A, show K.down.row = K.row.down from rfl, F5, g8, hn, h.1, yu]
     exact ⟨by simp, rfl⟩
    ·rename_i b g
     obtain ⟨K, A, h⟩ := cY h
     rw [c9] at h
     obtain ⟨hn, h⟩ := h
     simp only [real_guard] at h
     rw [c9] at h
     refine ⟨_, h.2, ?_⟩
     simp only [jG, KV.down, J, z.n, ya, A, show K.down.row = K.row.down from rfl, F5, Co, g8, hn, h.1, yu]
     exact ⟨by simp, rfl⟩
    ·cases h
   ·cases h
  ·rename_i n e V
   have J := M.under_arr V
   split at h
   ·rename_i W H
    have z := b8.of (ht _ _ H)
    split at h
    ·rename_i b g j c
     simp only [real_guard] at h
     rw [c9] at h
     refine ⟨_, h.2, ?_⟩
     simp only [jG, KV.down, J, z.n, ya, g8]
     exact ⟨h.1, rfl⟩
    ·cases h
   ·cases h
  ·cases h
 ·cases h
theorem Kn (ht : cF P tab) {t : TypeId} {x : KV} {lo V mx : Option Int} {k : bY → Option R} (h : Jv (bI R) tab t mem x lo V mx k = some r) :
  ∃ out, k out = some r ∧ gQ P t (aF mem) x.down lo V mx = some out.down := by
 unfold Jv at h
 split at h
 ·rename_i ti hti
  have N := b8.of (ht _ _ hti)
  split at h
  ·rename_i W
   have J := N.under_str W
   split at h
   ·rename_i s
    rw [c9] at h
    obtain ⟨hm, h⟩ := h
    obtain ⟨b, Z, h⟩ := iM h
    exact ⟨_, h, by simp only [gQ, KV.down, J, g8, hm, Z, yo]; exact ⟨trivial, rfl⟩⟩
   ·cases h
  ·rename_i et W
   have J := N.under_sl W
   split at h
   ·rename_i te O
    have z := b8.of (ht _ _ O)
    split at h
    ·rename_i β ag T xs
     rw [c9] at h
     obtain ⟨hn, h⟩ := h
     have hn := nb.1 hn
     obtain ⟨b, Z, h⟩ := iM h
     refine ⟨_, h, ?_⟩
     cases V : bT ag T with
     | true =>
      obtain ⟨rfl, kk, rfl⟩ := aX.1 V
      have M : te.n = 1 := hn
      show gQ P t (aF mem) (.imm β (.ints kk xs)) lo _ mx = _
      have hb' : iG (xs : List Int).length lo _ mx = some b := Z
      exact Kt J (by rw [z.n, M]) hb'
     | false =>
      rw [qT V]
      simp only [gQ, J, z.n, ya, g8, hn, ye2, Z, yo]
      exact ⟨nb.2 rfl, by simp [bY.down, fU, qT V, aF, ym3, yn3]⟩
    ·rename_i b g o n
     obtain ⟨H, A, h⟩ := cY h
     rw [c9] at h
     obtain ⟨hn, h⟩ := h
     obtain ⟨q, U, h⟩ := iM h
     refine ⟨_, h, ?_⟩
     simp only [gQ, KV.down, J, z.n, ya, A, show H.down.row = H.row.down from rfl, F5, g8, hn, U, yo]
     exact ⟨trivial, rfl⟩
    ·rename_i b g
     obtain ⟨H, A, h⟩ := cY h
     rw [c9] at h
     obtain ⟨hn, h⟩ := h
     obtain ⟨q, U, h⟩ := iM h
     refine ⟨_, h, ?_⟩
     simp only [gQ, KV.down, J, z.n, ya, A, show H.down.row = H.row.down from rfl, F5, Co, g8, hn, U, yo]
     exact ⟨trivial, rfl⟩
    ·obtain ⟨q, U, h⟩ := iM h
     refine ⟨_, h, ?_⟩
     simp only [gQ, KV.down, J, z.n, ya, U, yo]; rfl
    ·cases h
   ·cases h
  ·rename_i n e W
   have J := N.under_arr W
   split at h
   ·rename_i te O
    have z := b8.of (ht _ _ O)
    split at h
    ·rename_i b g i c
     rw [c9] at h
     obtain ⟨hg, h⟩ := h
     simp only [yc] at hg
     obtain rfl := nb.1 hg.1
     have M := nb.1 hg.2
     obtain ⟨H, A, h⟩ := cY h
     split at h
     ·rename_i e' cs Y
      rw [c9] at h
      obtain ⟨K, h⟩ := h
      simp only [yc] at K
      obtain rfl := nb.1 K.1
      obtain ⟨q, U, h⟩ := iM h
      refine ⟨_, h, ?_⟩
      have hd : H.down.row = .cells 1 (KV.downs cs) := by rw [show H.down.row = H.row.down from rfl, Y]; rfl
      simp only [gQ, KV.down, J, z.n, ya, M, g8, A, hd, aQ, K.2, U, yo]
      exact ⟨rfl, trivial, rfl⟩
     ·cases h
    ·cases h
   ·cases h
  ·cases h
 ·cases h
theorem AM (cs : List KV) (i : Nat) (v : KV) : KV.downs (cs.set i v) = (KV.downs cs).set i v.down := by simp [dC, List.map_set]
theorem rP : ∀ (vs : List KV) (cs : List KV) (i : Nat), KV.downs (eU cs i vs) = setCells (KV.downs cs) i (KV.downs vs)
 | [], cs, i => rfl
 | v :: vs, cs, i => by simp only [eU, KV.downs, setCells, rP vs, eF, AM]
def eR (β : Bool) (cs : List KV) (qs : List PV) : Prop := cs.length = qs.length ∧ ∀ (j : Nat) (v : KV), cs[j]? = some v → ∃ q, qs[j]? = some q ∧ rS β v q
theorem eR.of (β : Bool) (T : Ty) (x : den T) : eR β (cellsOf β T x) (aV T x) := ⟨by rw [kK.1, bO], kK.2⟩
theorem eR.set {β : Bool} {cs : List KV} {qs : List PV} (h : eR β cs qs) {v : KV} {q : PV} (H : rS β v q) (i : Nat) : eR β (cs.set i v) (qs.set i q) := by
 refine ⟨by simp [h.1], fun j w z => ?_⟩
 by_cases e : j = i
 ·subst e
  have hl : j < cs.length := by have := (yh.1 z).1; simpa using this
  rw [yf1 hl] at z
  obtain rfl := yb z
  exact ⟨q, yf1 (by rw [← h.1]; exact hl), H⟩
 ·rw [yg1 (fun x => e x.symm)] at z
  obtain ⟨p, J, A⟩ := h.2 j w z
  exact ⟨p, by rw [yg1 (fun x => e x.symm)]; exact J, A⟩
theorem eR.setRow {β : Bool} : ∀ {vs : List KV} {ps : List PV} {cs : List KV} {qs : List PV} (i : Nat), eR β vs ps → eR β cs qs → eR β (eU cs i vs) (nL qs i ps)
 | [], [], cs, qs, i, _, h => h
 | [], p :: ps, cs, qs, i, z, h => by cases z.1
 | v :: vs, [], cs, qs, i, z, h => by cases z.1
 | v :: vs, p :: ps, cs, qs, i, z, h => by
  obtain ⟨q, H, A⟩ := z.2 0 v rfl
  obtain rfl := yb H
  simp only [eU, nL, eF]
  exact eR.setRow (i + 1) ⟨by simpa using z.1, fun j w J => by simpa using z.2 (j + 1) w (by simpa using J)⟩ (h.set A i)
theorem eR.take {β : Bool} {cs : List KV} {qs : List PV} (h : eR β cs qs) (n : Nat) : eR β (cs.take n) (qs.take n) := by
 refine ⟨by simp [h.1], fun j v z => ?_⟩
 rw [yo2] at z
 split at z
 ·rename_i A
  obtain ⟨q, J, H⟩ := h.2 j v z
  exact ⟨q, by rw [yo2, if_pos A]; exact J, H⟩
 ·cases z
theorem eR.drop {β : Bool} {cs : List KV} {qs : List PV} (h : eR β cs qs) (n : Nat) : eR β (cs.drop n) (qs.drop n) := by
 refine ⟨by simp [h.1], fun j v z => ?_⟩
 rw [yd1] at z ⊢
 exact h.2 _ v z
theorem D8 : ∀ {T : Ty} {cs : List KV} {qs : List PV} {K : den T → Bool → List Nat → Option R}, eR false cs qs → eZ (bI R) mem T cs K = some r → ∃ z β l, K z β l = some r ∧ aV T z = qs
 | .int k, cs, qs, K, A, h => by
  simp only [eZ] at h
  split at h
  ·rename_i k' x
   rw [c9] at h
   obtain ⟨q, J, H⟩ := A.2 0 _ rfl
   obtain ⟨M, rfl⟩ := yg2.1 A.1.symm
   obtain rfl := yb J
   refine ⟨x, _, _, h.2, ?_⟩
   obtain rfl := vV.1 h.1
   rcases H with ⟨_, _, e, rfl⟩ | ⟨_, e, _⟩ | ⟨_, e, _⟩ | ⟨_, _, _, e, _⟩ <;> cases e
   rfl
  ·cases h
 | .bool, cs, qs, K, A, h => by
  simp only [eZ] at h
  split at h
  ·rename_i x
   obtain ⟨q, J, H⟩ := A.2 0 _ rfl
   obtain ⟨M, rfl⟩ := yg2.1 A.1.symm
   obtain rfl := yb J
   refine ⟨x, _, _, h, ?_⟩
   rcases H with ⟨_, _, e, _⟩ | ⟨_, e, rfl⟩ | ⟨_, e, _⟩ | ⟨_, _, _, e, _⟩ <;> cases e
   rfl
  ·cases h
 | .str, cs, qs, K, A, h => by
  simp only [eZ] at h
  split at h
  ·rename_i x
   obtain ⟨q, J, H⟩ := A.2 0 _ rfl
   obtain ⟨M, rfl⟩ := yg2.1 A.1.symm
   obtain rfl := yb J
   refine ⟨x, _, _, h, ?_⟩
   rcases H with ⟨_, _, e, _⟩ | ⟨_, e, _⟩ | ⟨_, e, rfl⟩ | ⟨_, _, _, e, _⟩ <;> cases e
   rfl
  ·cases h
 | .sl ag T, cs, qs, K, A, h => by
  simp only [eZ] at h
  split at h
  ·rename_i β O T' xs
   rw [c9] at h
   obtain ⟨U, h⟩ := h
   obtain rfl := L5.1 U
   split at h
   ·rename_i ys N
    obtain ⟨rfl, rfl⟩ := fW N
    obtain ⟨q, J, H⟩ := A.2 0 _ rfl
    obtain ⟨M, rfl⟩ := yg2.1 A.1.symm
    obtain rfl := yb J
    refine ⟨xs, _, _, h, ?_⟩
    rcases H with ⟨_, _, e, _⟩ | ⟨_, e, _⟩ | ⟨_, e, _⟩ | ⟨_, _, _, e, rfl⟩ <;> cases e
    rfl
   ·cases h
  ·obtain ⟨q, J, H⟩ := A.2 0 _ rfl
   rcases H with ⟨_, _, e, _⟩ | ⟨_, e, _⟩ | ⟨_, e, _⟩ | ⟨_, _, _, e, _⟩ <;> cases e
  ·obtain ⟨q, J, H⟩ := A.2 0 _ rfl
   rcases H with ⟨_, _, e, _⟩ | ⟨_, e, _⟩ | ⟨_, e, _⟩ | ⟨_, _, _, e, _⟩ <;> cases e
  ·obtain ⟨q, J, H⟩ := A.2 0 _ rfl
   rcases H with ⟨_, _, e, _⟩ | ⟨_, e, _⟩ | ⟨_, e, _⟩ | ⟨_, _, _, e, _⟩ <;> cases e
  ·cases h
 | .cons a b, cs, qs, K, A, h => by
  simp only [eZ] at h
  obtain ⟨x, _, _, h, hx⟩ := D8 (A.take a.size) h
  obtain ⟨y, β, l, h, N⟩ := D8 (A.drop a.size) h
  exact ⟨(x, y), _, _, h, by simp only [aV, hx, N, List.take_append_drop]⟩
theorem qP (mem : aR) : ∀ (l : List Nat), (nI mem l).map (fun q => (q.1, q.2.down)) = bV (aF mem) l
 | [] => rfl
 | b :: l => by
  unfold nI bV
  rw [bU, gC]
  have h := qP mem l
  cases hb : mem[b]? with
  | none => simpa using h
  | some x =>
   cases x with
   | none => simpa using h
   | some x => simp only [yo, yh2, h]; rfl
theorem Gl {ag : Bool} {cs : List PV} (h : ag = true ∨ 2 ≤ cs.length) : gY ag cs = .agg cs := by
 unfold gY
 split
 ·rcases h with h | h
  ·cases h
  ·simp at h
 ·rfl
theorem J7 {t : TypeId} {m : a9} {b g i n : Nat} {h : d8} {z : IntKind} {xs : List Int} {v : Int} (A : box? m b g = some h) (hn : k6 P t = some n) (hf : (!h.frz && Nat.beq (AV.lit (.int z v)).cells.length n) = true) (H : h.row = .ints z xs)
  (J : Nat.ble (i + 1) xs.length = true) : jO P t m (.ptr b g i 0) (.lit (.int z v)) = some { v := .lit undef, rd := [b], wr := [(b, { gen := h.gen, frz := h.frz, row := .ints z (xs.set i v) })] } := by
 simp only [jO, A, hn, ya]
 rw [g8]; refine ⟨hf, ?_⟩
 rw [H]
 simp only [g8, yc]
 exact ⟨⟨⟨vV.2 rfl, rfl⟩, J⟩, trivial⟩
theorem J8 (ht : cF P tab) {t : TypeId} {a x : KV} {k : bY → Option R} (h : JE (bI R) tab t mem a x k = some r) : ∃ out, k out = some r ∧ jO P t (aF mem) a.down x.down = some out.down := by
 unfold JE at h
 split at h
 ·rename_i Y hti
  have K := b8.of (ht _ _ hti)
  split at h
  ·rename_i b g i c
   have h' := cY h
   clear h
   obtain ⟨N, U, h⟩ := h'
   rw [c9] at h
   obtain ⟨hg, h⟩ := h
   simp only [yc] at hg
   have hlen := nb.1 hg.2
   have V : (!N.down.frz && Nat.beq x.down.cells.length Y.n) = true := by
    rw [eK, aQ, hlen]; simpa [fG.down] using hg.1
   split at h
   ·rename_i e cs M
    have hd : N.down.row = .cells e (KV.downs cs) := by rw [show N.down.row = N.row.down from rfl, M]; rfl
    cases H : Nat.beq Y.n 1 with
    | true =>
     rw [H] at h; simp only [yg] at h
     split at h
     ·rename_i v hv
      rw [c9] at h
      obtain ⟨h1, h⟩ := h
      obtain ⟨_, hlt, h⟩ := A8 h
      refine ⟨_, h, ?_⟩
      have H := nb.1 H
      simp only [KV.down, jO, U, ya, K.n]
      rw [g8]; refine ⟨V, ?_⟩
      rw [hd]
      simp only [g8, eK, hv, aQ, yc]
      refine ⟨⟨nl.2 (by omega), by simp [KV.downs, kM, Fy h1]⟩, ?_⟩
      simp [bY.down, KV.down, KV.downs, fG.down, KRow.down, setCells, AM, aF]
     ·cases h
    | false =>
     rw [H] at h; simp only [ye] at h
     rw [c9] at h
     obtain ⟨h1, h⟩ := h
     simp only [yc] at h1
     refine ⟨_, h, ?_⟩
     simp only [KV.down, jO, U, ya, K.n]
     rw [g8]; refine ⟨V, ?_⟩
     rw [hd]
     simp only [g8, eK, aQ, yc]
     refine ⟨⟨h1.1, iA h1.2⟩, ?_⟩
     simp [bY.down, KV.down, fG.down, KRow.down, rP, aF]
   ·rename_i β ag T xs M
    have hd : N.down.row = (KRow.ts β ag T xs).down := by rw [show N.down.row = N.row.down from rfl, M]
    cases hi : bT ag T with
    | true =>
     rw [hi] at h; simp only [yg] at h
     split at h
     ·rename_i kd v
      rw [c9] at h
      obtain ⟨J, h⟩ := h
      simp only [yc] at J
      obtain rfl := nb.1 J.1
      have H := nb.1 J.2
      split at h
      ·rename_i z O
       obtain ⟨rfl, rfl⟩ := mP (F := den) O
       simp only [real_guard] at h
       rw [c9] at h
       refine ⟨_, h.2, ?_⟩
       obtain ⟨rfl, _⟩ := aX.1 hi
       have hd' : N.down.row = .ints kd xs := hd
       exact J7 U K.n V hd' h.1
      ·cases h
     ·cases h
    | false =>
     rw [hi] at h; simp only [ye] at h
     rw [c9] at h
     obtain ⟨J, h⟩ := h
     have J := nl.1 J
     rw [KRow.down_sl hi] at hd
     split at h
     ·rename_i W hT'
      obtain ⟨y, β', l, h, hpv⟩ := Cu K hT' h
      cases Z : gW b l with
      | true => rw [Z] at h; cases h
      | false =>
       rw [Z] at h; simp only [ye] at h
       have fin : ∀ {p : PV} {z : den T}, (xs.map (fK ag T))[i]? = some p → p.cells.length = T.size → fK ag T z = (bif Nat.beq Y.n T.size && Nat.beq c 0 then fK Y.ag W y else .agg (nL p.cells c (fK Y.ag W y).cells)) →
         k ⟨.lit undef, b :: l, nI mem l ++ [(b, ⟨N.gen, N.frz, .ts (β || β') ag T (xs.set i z)⟩)], []⟩ = some r → ∃ out, k out = some r ∧ jO P t (aF mem) (KV.ptr b g i c).down x.down = some out.down := by
        intro p z hp hpl O hk
        refine ⟨_, hk, ?_⟩
        simp only [KV.down, jO, U, ya, K.n]
        rw [g8]; refine ⟨V, ?_⟩
        rw [hd]
        simp only [hp, hpv, ya, g8, yc]
        refine ⟨⟨⟨nl.2 J, nb.2 hpl⟩, by rw [Z]; rfl⟩, ?_⟩
        rw [← O]
        refine congrArg some ?_
        simp only [bY.down, List.map_append, qP, yh2, List.map_nil]
        simp [KV.down, fG.down, KRow.down_sl hi, aF, List.map_set]
       cases A : Nat.beq c 0 && Nat.beq Y.n T.size with
       | true =>
        rw [A] at h; simp only [yg] at h
        split at h
        ·rename_i z O
         rw [c9] at O
         obtain ⟨hag, O⟩ := O
         have hag := L5.1 hag
         obtain ⟨rfl, rfl⟩ := mP (F := den) O
         simp only [real_guard] at h
         rw [c9] at h
         have hlt := nl.1 h.1
         have hx : (xs.map (fK ag W))[i]? = some (fK ag W xs[i]) := by rw [yh1, yd (by omega)]; rfl
         refine fin hx (by rw [dI, bO]) ?_ h.2
         rw [Bool.and_comm, A, hag]; rfl
        ·cases h
       | false =>
        rw [A] at h; simp only [ye, real_getN] at h
        rw [Lz] at h
        obtain ⟨p, hp, h⟩ := h
        obtain ⟨z, _, _, h, O⟩ := D8 (eR.setRow c (eR.of false W y) (eR.of false T p)) h
        refine fin (p := fK ag T p) (by rw [yh1, hp]; rfl) (by rw [dI, bO]) ?_ h
        rw [Bool.and_comm, A]
        simp only [ye, dI]
        rw [← O]
        have hsz : ag = true ∨ 2 ≤ T.size := by
         cases ag with
         | true => exact .inl rfl
         | false =>
          right
          have h1 := Ty.size_pos (T := T)
          have h2 := (K.ty W hT').2.1
          have h3 := Ty.size_pos (T := W)
          rcases yz1 T.size 2 with hlt | hge
          ·exfalso
           have hc0 : c = 0 := by omega
           have H : Y.n = T.size := by omega
           rw [hc0, H] at A
           simp at A
          ·exact hge
        exact Gl (hsz.imp id fun h => by rw [bO]; exact h)
     ·cases h
  ·cases h
 ·cases h
end
end Go.Ab
