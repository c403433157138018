import Derived.Test.YtdlbbdbbpoggfaaLib19
set_option linter.unusedVariables false
set_option linter.unusedSectionVars false
set_option linter.unusedSimpArgs false
namespace Go.Ab
variable [b4]
section
variable {P : Program} {R : Type} {r : R} {mem : aD} {tab : TypeId → Option TI} {C : bQ} {tbl : FuncId → List aC}
theorem pS (mem : aD) (b : Nat) : vE (aB mem) b = BF mem b := by
 unfold vE BF
 rw [Hc]
 cases dX mem b with
 | none => rfl
 | some y => cases y with
  | none => rfl
  | some x => exact dI x.row
theorem BC (mem : aD) (v : KV) : zQ (aB mem) v.down = w6 mem v := by
 cases v with
 | msw b g => exact pS mem b
 | ms b g o n => exact pS mem b
 | _ => rfl
theorem Mp (mem : aD) (v : KV) : If (aB mem) v.down = LB mem v := by
 cases v with
 | msw b g => exact pS mem b
 | _ => rfl
theorem GL (mem : aD) (v : KV) : H0 (aB mem) v.down = Ez mem v := by
 cases v with
 | ptr b g i c => exact pS mem b
 | _ => rfl
theorem NX (c : Nat) : ∀ hs : cY, Ao c (aV hs) = aV (E3 c hs)
 | [] => rfl
 | (i, H, v) :: r => by
  simp only [aV, Ao, E3]
  cases Nat.beq c H with
  | true => rfl
  | false => simp only [yk, aV, NX c r]
theorem kH (a b : cY) : aV (a ++ b) = aV a ++ aV b := by
 induction a with
 | nil => rfl
 | cons h a H => simp only [yp2, aV, H]
theorem Hi (a b : aD) : aB (a ++ b) = aB a ++ aB b := by simp [aB]
noncomputable def Ox (P : Program) : List Ty → List LK → Bool
 | [], [] => true
 | T :: Ts, l :: ls => aS P T [l] && Ox P Ts ls
 | _, _ => false
theorem Il : ∀ {T : Ty} {ls : List LK}, aS P T ls = true → Ox P (c6 T) ls = true
 | .cons a b, ls, h => by
  simp only [aS] at h
  split at h
  ·rename_i l ls
   simp only [yb] at h
   simp only [c6, fQ (nb.1 h.1.1), List.singleton_append, Ox, yb]
   exact ⟨h.1.2, Il h.2⟩
  ·cases h
 | .int k, ls, h => one rfl h
 | .bool, ls, h => one rfl h
 | .str, ls, h => one rfl h
 | .sl ag T, ls, h => one rfl h
 where
 one {T : Ty} {ls : List LK} (H : T.size = 1) (h : aS P T ls = true) : Ox P (c6 T) ls = true := by
  obtain ⟨l, rfl⟩ := Bh H h
  rw [fQ H]
  simp only [Ox, h, yo3]
theorem MF {T : Ty} {u : Value} (h : iL T (.lit u) = true) : T.flat = true := by
 cases T <;> first | rfl | (cases u <;> cases h)
theorem Fo (ag : Bool) (T : Ty) (xs : List (den T)) : cW (dL ag T xs) = some (KRow.ts false ag T xs).down := by
 cases H : aY ag T with
 | true => obtain ⟨rfl, kk, rfl⟩ := aK.1 H; rfl
 | false =>
  rw [bX H, KRow.down_sl H]
  simp only [cW]
  rw [d9]
  exact ⟨nl.2 Ty.size_pos, rfl⟩
theorem KG {tk : Bool} {i c : Nat} {v : KV} {hs : cY} {nb : Nat} {k : KV → cY → List KRow → Option R} {xs : List PV} {p q : PV} {l : LK} {T : Ty} (N : aS P T [l] = true) (J : iL T v = true)
  (U : xs[i]? = some p) (V : p.cells[c]? = some q) (H : j4 true v q) (h : Bm (aP R) tk i c v hs nb k = some r) :
  ∃ a hs' rows, k a hs' rows = some r ∧ nH tk xs i c l (aV hs) nb = some (a.down, aV hs', rows.map KRow.down) := by
 unfold Bm at h
 unfold nH
 simp only [U, V, ye, vI]
 cases M : lD c hs with
 | some hh =>
  rw [M] at h
  simp only [real_guard] at h
  rw [bP] at h
  refine ⟨_, _, _, h.2, ?_⟩
  simp only [yg]
  rw [d9]
  exact ⟨h.1, rfl⟩
 | none =>
  rw [M] at h
  simp only [yh2] at h ⊢
  have I := pT N
  simp only [yh3, List.all_nil, yg3] at I
  split at h
  ·rename_i u
   rw [I, MF J]
   refine ⟨_, _, _, h, ?_⟩
   simp only [yl, vC N J H, yg]; rfl
  ·rename_i β ag W Y
   rw [bP] at h
   cases T with
   | sl O T2 =>
    rw [I]
    refine ⟨_, _, _, h.2, ?_⟩
    show guardB tk _ = _
    rw [d9]
    refine ⟨h.1, ?_⟩
    have K : q = dL ag W Y := by
     rcases H with ⟨_, _, e, _⟩ | ⟨_, e, _⟩ | ⟨_, e, _⟩ | ⟨_, _, _, e, rfl⟩ <;> cases e
     rfl
    rw [K, Fo]; rfl
   | _ => cases J
  ·cases h
theorem CI {tk : Bool} {i : Nat} {xs : List PV} {p : PV} (W : xs[i]? = some p) : ∀ {vs : List KV} {N : List Ty} {ls : List LK} {c : Nat} {hs : cY} {nb : Nat} {k : List KV → cY → List KRow → Option R},
  Ox P N ls = true → aQ N vs = true → (∀ (j : Nat) (v : KV), vs[j]? = some v → ∃ q, p.cells[c + j]? = some q ∧ j4 true v q) → CY (aP R) tk i vs c hs nb k = some r →
   ∃ as hs' rows, k as hs' rows = some r ∧ oG tk xs i ls c (aV hs) nb = some (KV.downs as, aV hs', rows.map KRow.down)
 | [], [], [], c, hs, nb, k, H, I, J, h => ⟨[], hs, [], h, rfl⟩
 | v :: vs, T :: N, l :: ls, c, hs, nb, k, H, I, J, h => by
  simp only [Ox, yb] at H
  simp only [aQ, yb] at I
  obtain ⟨q, M, O⟩ := J 0 v rfl
  rw [ym1] at M
  simp only [CY] at h
  obtain ⟨a, Y, rows, h, hr⟩ := KG H.1 I.1 W M O h
  obtain ⟨as, U, K, h, V⟩ := CI W (c := c + 1) H.2 I.2 (fun j w hj => by
   obtain ⟨q, Z, h2⟩ := J (j + 1) w (by simpa using hj)
   exact ⟨q, by rw [show c + 1 + j = c + (j + 1) by omega]; exact Z, h2⟩) h
  refine ⟨a :: as, U, rows ++ K, h, ?_⟩
  simp only [oG, hr, ye, ye1, V, yg, KV.downs, yk3]
 | [], _ :: _, _, _, _, _, _, H, I, J, h => by cases I
 | _ :: _, [], _, _, _, _, _, H, I, J, h => by cases I
 | [], [], _ :: _, _, _, _, _, H, I, J, h => by cases H
 | _ :: _, _ :: _, [], _, _, _, _, H, I, J, h => by cases H
theorem p4 : ∀ rows : List KRow, eS (rows.map KRow.down) = aB (oW rows)
 | [] => rfl
 | r :: rs => by
  have H := p4 rs
  simp only [yx1, eS, oW, H]; rfl
theorem GY (b : Nat) (H : dE) (T : Ty) (xs : List (den T)) (v : KV) (hs : cY) (rows : List KRow) :
  (Lg b H T xs v hs rows).down = AQ b T.size H.down (xs.map (cT (eW T) T)) v.down (aV hs, rows.map KRow.down) := by
 cases rows with
 | nil => rfl
 | cons r rs =>
  show dD.mk _ _ _ (aB (oW (r :: rs))) = _
  rw [← p4]; rfl
theorem KP (ht : bI P tab) {tk : Bool} {t : TypeId} {a : KV} {k : aZ → Option R} (h : Lk (aP R) tab tk t mem a k = some r) : ∃ out, k out = some r ∧ At P tk t (aB mem) a.down = some out.down := by
 unfold Lk at h
 split at h
 ·rename_i ti Y
  have H := bV.of (ht _ _ Y)
  split at h
  ·rename_i b g i c
   obtain ⟨Z, J, h⟩ := eU h
   split at h
   ·rename_i T xs hs N
    split at h
    ·rename_i T' hT'
     simp only [real_getN] at h
     rw [C3] at h
     obtain ⟨x, hx, h⟩ := h
     rw [bP] at h
     obtain ⟨hl, h⟩ := h
     obtain ⟨⟨ls, M, hc⟩, hn, hag, _⟩ := H.ty T' hT'
     have hp : (xs.map (cT (eW T) T))[i]? = some (cT (eW T) T x) := by rw [yb1, hx]; rfl
     have hq : ∀ (j : Nat) (v : KV), (((cellsOf true T x).drop c).take ti.n)[j]? = some v → ∃ q, (cT (eW T) T x).cells[c + j]? = some q ∧ j4 true v q := by
      intro j v K
      rw [yj1] at K
      split at K
      ·rw [yz] at K
       rw [b7]; exact (jN (β := true) (x := x)).2 _ v K
      ·cases K
     have hd : Z.down.row = .own T.size (xs.map (cT (eW T) T)) (aV hs) := by rw [show Z.down.row = Z.row.down from rfl, N]; rfl
     obtain ⟨as, hs', rows, h, hr⟩ := CI hp (Il hc) hl hq h
     cases O : ti.ag with
     | true =>
      rw [O] at h; simp only [yl] at h
      refine ⟨_, h, ?_⟩
      have I := H.ag; rw [O] at I
      simp only [KV.down, At, J, ye, hd, I, M, H.n]
      rw [d9]
      refine ⟨nb.2 (by rw [d7 hc, hn]), ?_⟩
      rw [d8, hr, yg, GY]; rfl
     | false =>
      rw [O] at h; simp only [yk] at h
      have I := H.ag; rw [O] at I
      obtain ⟨l, U, rfl⟩ := fA I M
      split at h
      ·rename_i v
       refine ⟨_, h, ?_⟩
       simp only [KV.down, At, J, ye, hd, I, U]
       rw [d8]
       simp only [oG, C3] at hr
       obtain ⟨q, V, hr⟩ := hr
       rw [yc] at hr
       obtain ⟨q2, W, hr⟩ := hr
       obtain rfl := ya W
       simp only [yg1, Prod.mk.injEq, KV.downs, List.cons.injEq, and_true] at hr
       obtain ⟨e1, e2, e3⟩ := hr
       rw [V, yg, GY, e1, ← e2, ← e3]
      ·cases h
    ·cases h
   ·cases h
  ·cases h
 ·cases h
theorem zI {i c : Nat} {hs : cY} {k : cY → Option R} (h : Dn (aP R) i c hs k = some r) : ∃ hs', k hs' = some r ∧ B7 i c (aV hs) = some (aV hs') := by
 unfold Dn at h
 unfold B7
 rw [vI]
 cases H : lD c hs with
 | none => rw [H] at h; exact ⟨hs, h, rfl⟩
 | some q =>
  rw [H] at h
  simp only [real_guard] at h
  rw [bP] at h
  obtain ⟨I, h⟩ := h
  rw [bP] at h
  refine ⟨_, h.2, ?_⟩
  simp only [yg]
  rw [d9]
  rw [NX, vI, pQ, ← v5, yb]
  exact ⟨⟨h.1, I⟩, rfl⟩
theorem Kb (ag : Bool) (T : Ty) (xs : List (den T)) : Am (dL ag T xs) = some (dL ag T []) := by
 cases H : aY ag T with
 | true => obtain ⟨rfl, kk, rfl⟩ := aK.1 H; rfl
 | false =>
  rw [bX H, bX H]
  simp only [Am]
  rw [d9]
  exact ⟨nl.2 Ty.size_pos, rfl⟩
theorem Hs {u v : Value} (h : De u v = true) : j4 false (.lit v) (.lit v) := by
 unfold De at h
 split at h
 ·exact .inl ⟨_, _, rfl, rfl⟩
 ·exact .inr (.inl ⟨_, rfl, rfl⟩)
 ·exact .inr (.inr (.inl ⟨_, rfl, rfl⟩))
 ·cases h
theorem KK (ag : Bool) (T : Ty) (xs : List (den T)) : (∃ k H, dL ag T xs = .ints k H) ∨ ∃ e H, dL ag T xs = .sl e H := by
 cases I : aY ag T with
 | true => obtain ⟨rfl, J, rfl⟩ := aK.1 I; exact .inl ⟨J, xs, rfl⟩
 | false => exact .inr ⟨_, _, bX I xs⟩
theorem Cs {t : TypeId} {m : aH} {b g i c e : Nat} {I : a9} {xs : List PV} {hs hs' : List (Nat × Nat × AV)} {p y : PV} {x : AV} (M : boxO? m b g = some I) (hr : I.row = .own e xs hs) (hn : iR P t = some 1) (N : I.frz = false) (O : H7 x = true)
  (W : ∀ v, x ≠ .lit v) (U : xs[i]? = some p) (V : p.cells[c]? = some y) (J : (∃ k H, y = .ints k H) ∨ ∃ e H, y = .sl e H) (K : B7 i c hs = some hs') :
  lG P t m (.ptr b g i c) x = some { v := .lit undef, rd := [b], wr := [(b, { I with row := .own e xs ((i, c, x) :: hs') })] } := by
 simp only [lG, M, hr, hn, N, O, ye, U, V]
 rw [d9]
 refine ⟨rfl, ?_⟩
 rcases J with ⟨k, H, rfl⟩ | ⟨e', H, rfl⟩ <;> cases x <;> first | exact absurd rfl (W _) | simp only [K, yg]
theorem K9 {t : TypeId} {m : aH} {b g i c e : Nat} {I : a9} {xs : List PV} {hs hs' : List (Nat × Nat × AV)} {p y M : PV} (O : boxO? m b g = some I) (hr : I.row = .own e xs hs) (hn : iR P t = some 1) (U : I.frz = false)
  (V : xs[i]? = some p) (W : p.cells[c]? = some y) (J : (∃ k H, y = .ints k H) ∨ ∃ e H, y = .sl e H) (N : Am y = some M) (K : B7 i c hs = some hs') :
  lG P t m (.ptr b g i c) (.lit (.slice none 0 0)) = some { v := .lit undef, rd := [b], wr := [(b, { I with row := .own e (xs.set i (jB p c M)) hs' })] } := by
 simp only [lG, O, hr, hn, U, ye, V, W]
 rw [d9]
 refine ⟨rfl, ?_⟩
 rcases J with ⟨k, H, rfl⟩ | ⟨e', H, rfl⟩ <;> simp only [N, ye, K, yg]
theorem ID (ht : bI P tab) {t : TypeId} {a x : KV} {k : aZ → Option R} (h : HB (aP R) tab t mem a x k = some r) : ∃ out, k out = some r ∧ lG P t (aB mem) a.down x.down = some out.down := by
 unfold HB at h
 split at h
 ·rename_i ti hti
  have hok := bV.of (ht _ _ hti)
  split at h
  ·rename_i b g i c
   obtain ⟨bx, K, h⟩ := eU h
   split at h
   ·rename_i T xs hs hrow
    rw [bP] at h
    obtain ⟨hg, h⟩ := h
    simp only [yb, yq] at hg
    obtain ⟨⟨g1, g2⟩, g3⟩ := hg
    simp only [real_getN] at h
    rw [C3] at h
    obtain ⟨p, hp, h⟩ := h
    have hn : iR P t = some 1 := by rw [hok.n, nb.1 g1]
    have hd : bx.down.row = .own T.size (xs.map (cT (eW T) T)) (aV hs) := by rw [show bx.down.row = bx.row.down from rfl, hrow]; rfl
    have M : (xs.map (cT (eW T) T))[i]? = some (cT (eW T) T p) := by rw [yb1, hp]; rfl
    split at h
    ·rename_i u H
     rw [aX] at H
     obtain ⟨y, Z, O⟩ := (dF.of false T p).2 _ _ H
     have I : y = .lit u := by
      rcases O with ⟨_, _, e, rfl⟩ | ⟨_, e, rfl⟩ | ⟨_, e, rfl⟩ | ⟨_, _, _, e, _⟩ <;> cases e <;> rfl
     subst I
     split at h
     ·rename_i v
      rw [bP] at h
      obtain ⟨U, h⟩ := h
      simp only [yb] at U
      have N : c < (aM T p).length := (yd.1 Z).1
      rw [sL] at h
      obtain ⟨z, _, _, h, hz⟩ := kQ ((dF.of false T p).set (Hs U.1) c) h
      refine ⟨_, h, ?_⟩
      simp only [KV.down, lG, K, hd, hn, ye, M, b7, Z, show bx.down.frz = bx.frz from rfl, g2]
      rw [d9]
      refine ⟨oS g3, ?_⟩
      rw [d9]
      refine ⟨?_, ?_⟩
      ·rw [yb, vI, pQ, ← v5]; exact U
      ·rw [FQ N hz, K1]; rfl
     ·cases h
    ·rename_i β V T' ys H
     rw [aX] at H
     obtain ⟨y, Z, O⟩ := (dF.of false T p).2 _ _ H
     have I : y = dL V T' ys := by
      rcases O with ⟨_, _, e, _⟩ | ⟨_, e, _⟩ | ⟨_, e, _⟩ | ⟨_, _, _, e, rfl⟩ <;> cases e
      rfl
     have Y : (cT (eW T) T p).cells[c]? = some y := by rw [b7]; exact Z
     have W : (∃ k ys, y = .ints k ys) ∨ ∃ e ys, y = .sl e ys := by rw [I]; exact KK _ _ _
     split at h
     ·obtain ⟨hs', h, J⟩ := zI h
      have N : c < (aM T p).length := (yd.1 Z).1
      rw [sL] at h
      obtain ⟨z, _, _, h, hz⟩ := kQ ((dF.of false T p).set (v := .tsl false V T' []) (q := dL V T' []) (.inr (.inr (.inr ⟨_, _, _, rfl, rfl⟩))) c) h
      refine ⟨_, h, ?_⟩
      have := K9 (P := P) K hd hn g2 M Y W (by rw [I]; exact Kb _ _ _) J
      rw [FQ N hz, K1] at this
      exact this
     ·obtain ⟨hs', h, J⟩ := zI h
      exact ⟨_, h, Cs (P := P) K hd hn g2 (oS g3) (by simp [KV.down]) M Y W J⟩
     ·obtain ⟨hs', h, J⟩ := zI h
      exact ⟨_, h, Cs (P := P) K hd hn g2 (oS g3) (by simp [KV.down]) M Y W J⟩
     ·cases h
    ·cases h
   ·cases h
  ·cases h
 ·cases h
theorem MV (ht : bI P tab) {t : TypeId} {x : KV} {k : aZ → Option R} (h : NB tab t mem x k = some r) : ∃ out, k out = some r ∧ Jm P t (aB mem) x.down = some out.down := by
 unfold NB at h
 split at h
 ·rename_i ti K
  have I := bV.of (ht _ _ K)
  split at h
  ·rename_i et b g N
   obtain ⟨M, J, h⟩ := eU h
   split at h
   ·rename_i T xs hs H
    refine ⟨_, h, ?_⟩
    simp only [KV.down, Jm, I.under_sl N, J, yg, show M.down.row = M.row.down from rfl, qQ, H]
    rfl
   ·cases h
  ·cases h
 ·cases h
theorem Iq (ht : bI P tab) {t : TypeId} {x : KV} {i : Int} {k : aZ → Option R} (h : Ib (aP R) tab t mem x i k = some r) : ∃ out, k out = some r ∧ p7 P t (aB mem) x.down i = some out.down := by
 unfold Ib at h
 have N := fP ht h
 clear h
 obtain ⟨et, te, O, K, h, M⟩ := N
 have I := bV.of (ht _ _ K)
 split at h
 ·rename_i b g o n
  obtain ⟨J, H, h⟩ := eU h
  rw [bP] at h
  obtain ⟨hn, h⟩ := h
  simp only [real_guard] at h
  rw [bP] at h
  refine ⟨_, h.2, ?_⟩
  simp only [p7, KV.down, M, I.n, ye, H, show J.down.row = J.row.down from rfl, yJ, d9, hn, h.1, yl3]
  exact ⟨by simp, rfl⟩
 ·rename_i b g
  obtain ⟨J, H, h⟩ := eU h
  rw [bP] at h
  obtain ⟨hn, h⟩ := h
  simp only [real_guard] at h
  rw [bP] at h
  refine ⟨_, h.2, ?_⟩
  simp only [p7, KV.down, M, I.n, ye, H, show J.down.row = J.row.down from rfl, yJ, qQ, d9, hn, h.1, yl3]
  exact ⟨by simp, rfl⟩
 ·cases h
theorem JY (ht : bI P tab) {t : TypeId} {x : KV} {N U V : Option Int} {k : aZ → Option R} (h : Hj (aP R) tab t mem x N U V k = some r) : ∃ out, k out = some r ∧ pI P t (aB mem) x.down N U V = some out.down := by
 unfold Hj at h
 have W := fP ht h
 clear h
 obtain ⟨et, te, Y, K, h, O⟩ := W
 have I := bV.of (ht _ _ K)
 split at h
 ·rename_i b g o n
  obtain ⟨J, H, h⟩ := eU h
  rw [bP] at h
  obtain ⟨hn, h⟩ := h
  obtain ⟨q, M, h⟩ := fE h
  refine ⟨_, h, ?_⟩
  simp only [pI, KV.down, O, I.n, ye, H, show J.down.row = J.row.down from rfl, yJ, d9, hn, M, yg]
  exact ⟨trivial, rfl⟩
 ·rename_i b g
  obtain ⟨J, H, h⟩ := eU h
  rw [bP] at h
  obtain ⟨hn, h⟩ := h
  obtain ⟨q, M, h⟩ := fE h
  refine ⟨_, h, ?_⟩
  simp only [pI, KV.down, O, I.n, ye, H, show J.down.row = J.row.down from rfl, yJ, qQ, d9, hn, M, yg]
  exact ⟨trivial, rfl⟩
 ·cases h
theorem LX {ag : Bool} {T : Ty} {l : LK} (H : aS P (.sl ag T) [l] = true) : (∃ k, l = .ints k ∧ ag = false ∧ T = .int k) ∨ (∃ t, l = .sl t T.size ∧ aY ag T = false) := by
 simp only [aS] at H
 split at H
 ·rename_i k I
  obtain rfl := (yx I).1
  cases ag with
  | true => simp at H
  | false =>
   cases T with
   | int k' => simp only at H; obtain rfl := rW.1 H; exact .inl ⟨k, rfl, rfl, rfl⟩
   | _ => simp at H
 ·rename_i t e I
  obtain rfl := (yx I).1
  simp only [yb, yq] at H
  obtain rfl := nb.1 H.1.1.1.1
  exact .inr ⟨t, rfl, H.1.1.1.2⟩
 ·cases H
theorem BT {T : Ty} {l : LK} (H : aS P T [l] = true) : (∀ k, T = .int k → l = .int k) ∧ (T = .bool → l = .bool) ∧ (T = .str → l = .str) := by
 refine ⟨?_, ?_, ?_⟩
 ·rintro k rfl
  simp only [aS] at H
  split at H
  ·rename_i k' I; obtain rfl := (yx I).1; rw [rW.1 H]
  ·cases H
 ·rintro rfl
  simp only [aS] at H
  split at H
  ·rename_i I; exact (yx I).1
  ·cases H
 ·rintro rfl
  simp only [aS] at H
  split at H
  ·rename_i I; exact (yx I).1
  ·cases H
theorem KN {T : Ty} {l : LK} {v : KV} {j c : Nat} {a : KV × cY} (H : aS P T [l] = true) (h : Kd T v j c = some a) :
  ∃ q, zR l v.down j c = some (q, aV a.2) ∧ j4 false a.1 q := by
 have hole : ∀ {ag : Bool} {T : Ty} {w : AV} (J : (∃ b g, w = .msw b g) ∨ (∃ b g o n, w = .ms b g o n)) (H : aS P (.sl ag T) [l] = true), zR l w j c = some (dL ag T [], [(j, c, w)]) := by
  intro ag T w J H
  rcases LX H with ⟨k, rfl, rfl, rfl⟩ | ⟨t, rfl, I⟩
  ·rcases J with ⟨b, g, rfl⟩ | ⟨b, g, o, n, rfl⟩ <;> rfl
  ·rw [bX I]
   rcases J with ⟨b, g, rfl⟩ | ⟨b, g, o, n, rfl⟩
   ·simp only [zR]; rw [d9]; exact ⟨nl.2 Ty.size_pos, rfl⟩
   ·simp only [zR]; rw [d9]; exact ⟨nl.2 Ty.size_pos, rfl⟩
 unfold Kd at h
 split at h
 ·rename_i k k' x
  rw [bP] at h
  obtain ⟨K, h⟩ := h
  obtain rfl := ya h
  obtain rfl := rW.1 K
  rw [(BT H).1 _ rfl]
  refine ⟨.lit (.int k x), ?_, .inl ⟨_, _, rfl, rfl⟩⟩
  simp only [KV.down, zR]; rw [d9]; exact ⟨K, rfl⟩
 ·obtain rfl := ya h
  rw [(BT H).2.1 rfl]
  exact ⟨_, rfl, .inr (.inl ⟨_, rfl, rfl⟩)⟩
 ·obtain rfl := ya h
  rw [(BT H).2.2 rfl]
  exact ⟨_, rfl, .inr (.inr (.inl ⟨_, rfl, rfl⟩))⟩
 ·rename_i ag T
  obtain rfl := ya h
  refine ⟨dL ag T [], ?_, .inr (.inr (.inr ⟨_, _, _, rfl, rfl⟩))⟩
  rcases LX H with ⟨k, rfl, rfl, rfl⟩ | ⟨t, rfl, I⟩
  ·rfl
  ·rw [bX I]
   simp only [KV.down, zR]; rw [d9]; exact ⟨nl.2 Ty.size_pos, rfl⟩
 ·rename_i ag T b g
  obtain rfl := ya h
  exact ⟨dL ag T [], hole (.inl ⟨_, _, rfl⟩) H, .inr (.inr (.inr ⟨_, _, _, rfl, rfl⟩))⟩
 ·rename_i ag T b g o n
  obtain rfl := ya h
  exact ⟨dL ag T [], hole (.inr ⟨_, _, _, _, rfl⟩) H, .inr (.inr (.inr ⟨_, _, _, rfl, rfl⟩))⟩
 ·cases h
theorem Fz : ∀ {M : List Ty} {ls : List LK} {vs : List KV} {j c : Nat} {a : List KV × cY}, Ox P M ls = true → NU M vs j c = some a → ∃ qs, MJ ls (KV.downs vs) j c = some (qs, aV a.2) ∧ dF false a.1 qs
 | [], [], [], j, c, a, H, h => by
  obtain rfl := ya h
  exact ⟨[], rfl, rfl, fun j v J => by cases J⟩
 | T :: M, l :: ls, v :: vs, j, c, a, H, h => by
  simp only [Ox, yb] at H
  simp only [NU] at h
  split at h
  ·rename_i a1 O
   split at h
   ·rename_i a2 V
    obtain rfl := ya h
    obtain ⟨q, U, K⟩ := KN H.1 O
    obtain ⟨qs, N, I⟩ := Fz H.2 V
    refine ⟨q :: qs, ?_, ?_, ?_⟩
    ·simp only [KV.downs, MJ, U, ye, N, yg, kH]
    ·simp only [yg2, I.1]
    ·intro j v J
     cases j with
     | zero => obtain rfl := ya J; exact ⟨q, rfl, K⟩
     | succ j => exact I.2 j v (by simpa using J)
   ·cases h
  ·cases h
 | [], _ :: _, _, _, _, _, H, h => by cases H
 | _ :: _, [], _, _, _, _, H, h => by cases H
 | [], _, _ :: _, _, _, _, _, h => by cases h
 | _ :: _, _, [], _, _, _, _, h => by cases h
theorem pC {t : TypeId} {T : Ty} {ls : List LK} (K : aS P T ls = true) (M : isAgg? P t = some (eW T)) (hs : eW T = false → T.size = 1) : ∀ {H : List (List KV)} {j : Nat} {k : List (den T) → cY → Option R}, E7 (aP R) T H j k = some r →
  ∃ xs hs, k xs hs = some r ∧ CQ P t ls (H.map KV.downs) j = some (xs.map (cT (eW T) T), aV hs)
 | [], j, k, h => ⟨[], [], h, rfl⟩
 | cs :: H, j, k, h => by
  simp only [E7] at h
  split at h
  ·rename_i a N
   obtain ⟨qs, O, I⟩ := Fz (Il K) N
   obtain ⟨x, _, _, h, U⟩ := kQ I h
   obtain ⟨xs, hs', h, J⟩ := pC K M hs h
   refine ⟨x :: xs, a.2 ++ hs', h, ?_⟩
   simp only [yx1, CQ, O, ye, ← U, oV M hs, J, yg, kH]
  ·cases h
theorem qH {n : Nat} : ∀ {hs : cY} {k : Option R}, vL (aP R) n hs k = some r → k = some r ∧ kI n (aV hs) = true
 | [], k, h => ⟨h, rfl⟩
 | (i, c, v) :: hs, k, h => by
  simp only [vL, real_guard] at h
  rw [bP] at h
  obtain ⟨H, I⟩ := qH h.2
  exact ⟨H, by simp only [aV, kI, h.1, I, yo3]⟩
theorem s7 (e n : Nat) (cs : List KV) : chunks e n (KV.downs cs) = (chunks e n cs).map KV.downs := by
 rw [cZ, zD]
 congr 1
 funext l
 exact (cZ l).symm
theorem HM (ht : bI P tab) {own : Bool} {t tx : TypeId} {rs : Nat} {x y : KV} {k : aZ → Option R} (h : Ew (aP R) tab own t tx mem rs x y k = some r) :
  ∃ out, k out = some r ∧ lS P own t tx (aB mem) rs x.down y.down = some out.down := by
 unfold Ew at h
 have h0 := fP ht h
 clear h
 obtain ⟨et, N, het, hte, h0, hu⟩ := h0
 have I := bV.of (ht _ _ hte)
 have h := BE ht h0
 clear h0
 obtain ⟨yr, J, h, hyv⟩ := h
 split at h
 ·rename_i e cs
  split at h
  ·rename_i T hT
   rw [bP] at h
   obtain ⟨O, h⟩ := h
   simp only [yb] at O
   obtain ⟨⟨⟨⟨⟨⟨g1, g2⟩, g3⟩, g4⟩, g5⟩, g6⟩, g7⟩ := O
   obtain ⟨⟨ls, hls, hc⟩, hn, M, _⟩ := I.ty T hT
   have g7 := Ip.1 g7
   have hz := I.zero_eq.1
   have ha := I.ag
   rw [g7] at ha M
   have Y : ∀ {W : Option dD} {o : dD}, W = some o → (match x.down with
     | .lit (.slice none 0 0) => guardB own ((CQ P et ls (chunks N.n (aN N.n cs.length) (KV.downs cs)) 0).bind fun q => guardB (Nat.ble 1 q.1.length && Nat.ble q.1.length bA)
       (some { v := .msw rs 0, rd := J, wr := [(rs, { gen := 0, frz := false, row := .own N.n q.1 q.2 })] }))
     | .msw b g => (boxO? (aB mem) b g).bind fun H => match H.row with
      | .own e' xs hs => (CQ P et ls (chunks N.n (aN N.n cs.length) (KV.downs cs)) xs.length).bind fun q => guardB (!H.frz && Nat.beq N.n e' && kI xs.length hs && Nat.ble (xs ++ q.1).length bA)
        (some { v := .msw b (g + 1), rd := b :: J, wr := [(b, { gen := g + 1, frz := false, row := .own e' (xs ++ q.1) (hs ++ q.2) })] })
      | _ => none
     | .ms b g 0 n => (boxO? (aB mem) b g).bind fun H => match H.row with
      | .own e' xs hs => (CQ P et ls (chunks N.n (aN N.n cs.length) (KV.downs cs)) n).bind fun q => guardB (!H.frz && Nat.beq N.n e' && Nat.ble n xs.length && kI n hs && Nat.ble (xs.take n ++ q.1).length bA)
        (some { v := .msw b (g + 1), rd := b :: J, wr := [(b, { gen := g + 1, frz := false, row := .own e' (xs.take n ++ q.1) (hs ++ q.2) })] })
      | _ => none
     | _ => none) = W → lS P own t tx (aB mem) rs x.down y.down = some o := by
    intro W o hres hm
    unfold lS
    simp only [het, ye, I.n, I.bytes, hz, hls, hyv, KRow.view]
    rw [d9]
    refine ⟨?_, ?_⟩
    ·simp only [yb]
     refine ⟨⟨⟨⟨⟨⟨g1, zG ht g2⟩, g3⟩, g4⟩, ?_⟩, ?_⟩, eY g6⟩
     ·rw [(zeroCells I).1, aG, (zeroCells I).2.2]; exact g5
     ·rw [d7 hc, hn]; exact nb.2 rfl
    ·rw [aG]; exact hm.trans hres
   split at h
   ·rw [bP] at h
    obtain ⟨ho, h⟩ := h
    obtain ⟨xs, hs, h, he⟩ := pC (t := et) hc ha M h
    rw [real_guard, bP] at h
    refine ⟨_, h.2, Y (o := (aZ.mk (.msw rs 0) J [(rs, ⟨0, false, .os T xs hs⟩)] []).down) rfl ?_⟩
    simp only [KV.down, s7, he, ye]
    rw [d9]
    refine ⟨ho, ?_⟩
    rw [d9]
    refine ⟨by rw [ye1]; exact h.1, ?_⟩
    rw [← hn]; rfl
   ·rename_i b g
    obtain ⟨H, V, h⟩ := eU h
    split at h
    ·rename_i T' xs hs K
     obtain ⟨zs, hs', h, he⟩ := pC (t := et) hc ha M h
     split at h
     ·rename_i ys Z
      obtain ⟨rfl, rfl⟩ := dW Z
      rw [bP] at h
      obtain ⟨O, h⟩ := h
      simp only [yb, yq] at O
      obtain ⟨h, U⟩ := qH h
      rw [real_guard, bP] at h
      have hd : H.down.row = .own T.size (xs.map (cT (eW T) T)) (aV hs) := by rw [show H.down.row = H.row.down from rfl, K]; rfl
      refine ⟨_, h.2, Y (o := (aZ.mk (.msw b (g + 1)) (b :: J) [(b, ⟨g + 1, false, .os T (xs ++ zs) (hs ++ hs')⟩)] []).down) rfl ?_⟩
      simp only [KV.down, V, ye, hd, s7, ye1, he]
      rw [d9]
      refine ⟨?_, ?_⟩
      ·simp only [yb, yq, show H.down.frz = H.frz from rfl]
       refine ⟨⟨⟨O.1, nb.2 hn.symm⟩, U⟩, ?_⟩
       have h1 := h.1
       simp only [yi1] at h1
       simp only [yi1, ye1]
       exact h1
      ·simp only [aZ.down, yx1, yq3, dE.down, KRow.down, yk3, kH]; rfl
     ·cases h
    ·cases h
   ·rename_i b g o n
    rw [real_guard, bP] at h
    obtain ⟨ho, h⟩ := h
    obtain rfl := nb.1 ho
    obtain ⟨H, V, h⟩ := eU h
    split at h
    ·rename_i T' xs hs K
     obtain ⟨zs, hs', h, he⟩ := pC (t := et) hc ha M h
     split at h
     ·rename_i ys Z
      obtain ⟨rfl, rfl⟩ := dW Z
      rw [bP] at h
      obtain ⟨O, h⟩ := h
      simp only [yb, yq] at O
      rw [real_guard, bP] at h
      obtain ⟨hnl, h⟩ := h
      obtain ⟨h, U⟩ := qH h
      rw [real_guard, bP] at h
      have hd : H.down.row = .own T.size (xs.map (cT (eW T) T)) (aV hs) := by rw [show H.down.row = H.row.down from rfl, K]; rfl
      refine ⟨_, h.2, Y (o := (aZ.mk (.msw b (g + 1)) (b :: J) [(b, ⟨g + 1, false, .os T (xs.take n ++ zs) (hs ++ hs')⟩)] []).down) rfl ?_⟩
      simp only [KV.down, V, ye, hd, s7, he]
      rw [d9]
      refine ⟨?_, ?_⟩
      ·simp only [yb, yq, show H.down.frz = H.frz from rfl]
       refine ⟨⟨⟨⟨O.1, nb.2 hn.symm⟩, by rw [ye1]; exact hnl⟩, U⟩, ?_⟩
       have h1 := h.1
       simp only [yi1, yb3] at h1
       simp only [yi1, ye1, yb3]
       exact h1
      ·simp only [aZ.down, yx1, yq3, dE.down, KRow.down, yk3, yz2, kH]; rfl
     ·cases h
    ·cases h
   ·cases h
  ·cases h
 ·cases h
theorem Fc (ht : bI P tab) {t : TypeId} {rs : Nat} {k : aZ → Option R} (h : Hf tab t rs k = some r) : ∃ out, k out = some r ∧ GU P t rs = some out.down := by
 unfold Hf at h
 have K := fP ht h
 clear h
 obtain ⟨et, te, I, J, h, hu⟩ := K
 have H := bV.of (ht _ _ J)
 split at h
 ·rename_i T hT
  rw [bP] at h
  obtain ⟨_, hn, _, _⟩ := H.ty T hT
  refine ⟨_, h.2, ?_⟩
  simp only [GU, I, ye, H.n]
  rw [d9]
  refine ⟨by rw [← hn]; exact nl.2 Ty.size_pos, ?_⟩
  rw [← hn]; rfl
 ·cases h
theorem KY (ht : bI P tab) {t : TypeId} {rs : Nat} {l c : KV} {ρ : Operand → Option AV} {Y oc : Operand} {k : aZ → Option R} (hl : ρ Y = some l.down) (U : ρ oc = some c.down) (h : Kk (aP R) tab rs t l c k = some r) :
  ∃ out, k out = some r ∧ GH P ρ (aB mem) rs t Y oc = some out.down := by
 unfold Kk at h
 have h0 := fP ht h
 clear h
 obtain ⟨et, te, V, M, h, hu⟩ := h0
 have H := bV.of (ht _ _ M)
 split at h
 ·rename_i k1 n k2 n'
  split at h
  ·rename_i T hT
   rw [bP] at h
   obtain ⟨hg, h⟩ := h
   simp only [yb] at hg
   obtain ⟨⟨⟨⟨g1, g2⟩, g3⟩, g4⟩, J⟩ := hg
   have J := Ip.1 J
   obtain ⟨⟨ls, O, hc⟩, hn, I, _⟩ := H.ty T hT
   have Z := H.ag
   rw [J] at Z I
   split at h
   ·rename_i a h1
    obtain ⟨qs, hq, K⟩ := Fz (Il hc) h1
    split at h
    ·rename_i W
     obtain ⟨z, _, _, h, hz⟩ := kQ K h
     rw [real_guard, bP] at h
     refine ⟨_, h.2, ?_⟩
     have N : (eP te).down.cells = KV.downs (te.zero.map .lit) := by rw [(zeroCells H).1, (zeroCells H).2.1]
     unfold GH
     simp only [V, ye, H.zero_eq.1, hl, U, O, KV.down]
     rw [d9]
     refine ⟨h.1, ?_⟩
     rw [N, hq]
     simp only [ye, ← hz, oV Z I, H.n, H.bytes]
     rw [d9]
     refine ⟨?_, ?_⟩
     ·simp only [yb]
      exact ⟨⟨⟨⟨g1, g2⟩, by rw [aG, ye1]; exact g3⟩, eY g4⟩, by rw [W]; rfl⟩
     ·simp only [aZ.down, yx1, yq3, dE.down, KRow.down, List.map_replicate, hn]; rfl
    ·cases h
   ·cases h
  ·cases h
 ·cases h
theorem sT : ∀ vs : List KV, (KV.downs vs).map AV.cells = (p8 vs).map KV.downs
 | [] => rfl
 | v :: vs => by simp only [KV.downs, yx1, p8, eG, sT vs]
theorem II (ht : bI P tab) {env : Nat → KV} {tmps : List AV} (he : fB env tmps) {rs : Nat} {t : TypeId} {len : Nat} {H : Array (Nat × Operand)} {k : aZ → Option R}
  (h : HY (aP R) tab env rs t len H k = some r) : ∃ out, k out = some r ∧ A9 P (bW tmps) (aB mem) rs t len H = some out.down := by
 unfold HY at h
 have K := fP ht h
 clear h
 obtain ⟨et, te, V, M, h, hu⟩ := K
 have I := bV.of (ht _ _ M)
 have K := qR he h
 clear h
 obtain ⟨ps, W, h⟩ := K
 simp only at h
 split at h
 ·rename_i T hT
  rw [bP] at h
  obtain ⟨hg, h⟩ := h
  simp only [yb] at hg
  obtain ⟨⟨⟨⟨⟨⟨⟨g1, g2⟩, g3⟩, g4⟩, g5⟩, g6⟩, g7⟩, N⟩ := hg
  have N := Ip.1 N
  obtain ⟨⟨ls, O, Y⟩, hn, J, _⟩ := I.ty T hT
  have Z := I.ag
  rw [N] at Z J
  obtain ⟨xs, hs, h, U⟩ := pC (t := et) Y Z J h
  refine ⟨_, h, ?_⟩
  unfold A9
  rw [V]; simp only [ye, I.zero_eq.1, I.n, W, O]
  rw [d9]
  constructor
  ·simp only [yb]
   refine ⟨⟨⟨⟨⟨⟨p5 g1, g2⟩, g3⟩, g4⟩, ?_⟩, ?_⟩, g6⟩
   ·have : (eP te).down :: (kD ps).map (·.2) = KV.downs (eP te :: ps.map (·.2)) := by simp [KV.downs, kD, cZ]
    rw [this]; exact qG g5
   ·rw [d7 Y, hn]; exact nb.2 rfl
  ·rw [← Gl, ← vW, sT, U]
   simp only [ye]
   rw [d9]
   refine ⟨by rw [n7]; exact eY g7, ?_⟩
   rw [← hn]; rfl
 ·cases h
theorem Bb {ρ : Operand → Option AV} {p : AV → Bool} {x : Operand} {v : AV} (h : ρ x = some v) : lJ ρ p x = p v := by unfold lJ; rw [h]
theorem NP (ht : bI P tab) (hC : Ft C tbl) {own tk boxed raw vars : Bool} {o : Oper} {env : Nat → KV} {tmps : List AV} (U : fB env tmps) {rs : Nat} {k : aZ → Option R} (h : OH (aP R) tab tbl own tk boxed raw vars o env mem rs k = some r) :
  ∃ out, k out = some r ∧ F9 P C own tk boxed raw vars o (bW tmps) (aB mem) rs = some out.down := by
 have plain : bG own (bW tmps) (aB mem) o.op = false → IM (aP R) tab tbl boxed raw vars o env mem rs k = some r → ∃ out, k out = some r ∧ F9 P C own tk boxed raw vars o (bW tmps) (aB mem) rs = some out.down := by
  intro K h
  obtain ⟨out, h, I⟩ := LY ht hC U h
  exact ⟨out, h, by unfold F9; rw [K]; exact I⟩
 have M : ∀ {out : aZ}, bG own (bW tmps) (aB mem) o.op = true → F3 P own tk o (bW tmps) (aB mem) rs = some out.down → F9 P C own tk boxed raw vars o (bW tmps) (aB mem) rs = some out.down := by
  intro out K O
  unfold F9; rw [K]; exact O
 unfold OH at h
 split at h
 ·rename_i x I
  cases W : own && jP x with
  | true =>
   rw [W] at h
   obtain ⟨out, h, hm⟩ := Fc ht h
   exact ⟨out, h, M (by rw [I]; exact W) (by unfold F3; rw [I]; exact hm)⟩
  | false => rw [W] at h; exact plain (by rw [I]; exact W) h
 ·rename_i x I
  cases W : own && jP x with
  | true =>
   rw [W] at h
   obtain ⟨out, h, hm⟩ := Fc ht h
   exact ⟨out, h, M (by rw [I]; exact W) (by unfold F3; rw [I]; exact hm)⟩
  | false => rw [W] at h; exact plain (by rw [I]; exact W) h
 ·rename_i t len parts I
  cases own with
  | true =>
   obtain ⟨out, h, hm⟩ := II ht U h
   exact ⟨out, h, M (by rw [I]; rfl) (by unfold F3; rw [I]; exact hm)⟩
  | false => exact plain (by rw [I]; rfl) h
 ·rename_i t l c I
  cases own with
  | true =>
   simp only [yl] at h
   obtain ⟨l', hl, h, _⟩ := aO U h
   obtain ⟨c', hc, h, _⟩ := aO U h
   obtain ⟨out, h, hm⟩ := KY (mem := mem) ht hl hc h
   exact ⟨out, h, M (by rw [I]; rfl) (by unfold F3; rw [I]; exact hm)⟩
  | false => exact plain (by rw [I]; rfl) h
 ·rename_i t a I
  obtain ⟨v, hv, h, _⟩ := aO U h
  have K : bG own (bW tmps) (aB mem) o.op = Ez mem v := by rw [I]; show lJ _ _ _ = _; rw [Bb hv, GL]
  cases O : Ez mem v with
  | true =>
   rw [O] at h K
   obtain ⟨out, h, hm⟩ := KP ht h
   exact ⟨out, h, M K (by unfold F3; rw [I]; simp only [hv, ye]; exact hm)⟩
  | false => rw [O] at h K; exact plain K h
 ·rename_i t a x I
  obtain ⟨v, hv, h, _⟩ := aO U h
  have K : bG own (bW tmps) (aB mem) o.op = Ez mem v := by rw [I]; show lJ _ _ _ = _; rw [Bb hv, GL]
  cases O : Ez mem v with
  | true =>
   rw [O] at h K
   simp only [yl] at h
   obtain ⟨x', W, h, _⟩ := aO U h
   obtain ⟨out, h, hm⟩ := ID ht h
   exact ⟨out, h, M K (by unfold F3; rw [I]; simp only [hv, W, ye]; exact hm)⟩
  | false => rw [O] at h K; exact plain K h
 ·rename_i t x lo hi' mx I
  obtain ⟨v, hv, h, _⟩ := aO U h
  have K : bG own (bW tmps) (aB mem) o.op = w6 mem v := by rw [I]; show lJ _ _ _ = _; rw [Bb hv, BC]
  cases O : w6 mem v with
  | true =>
   rw [O] at h K
   simp only [yl] at h
   obtain ⟨lo, hlo, h⟩ := oK U h
   obtain ⟨hi2, hhi, h⟩ := oK U h
   obtain ⟨mx, hmx, h⟩ := oK U h
   obtain ⟨out, h, hm⟩ := JY ht h
   exact ⟨out, h, M K (by unfold F3; rw [I]; simp only [hv, hlo, hhi, hmx, ye]; exact hm)⟩
  | false => rw [O] at h K; exact plain K h
 ·rename_i t x ix I
  obtain ⟨v, hv, h, _⟩ := aO U h
  have K : bG own (bW tmps) (aB mem) o.op = w6 mem v := by rw [I]; show lJ _ _ _ = _; rw [Bb hv, BC]
  cases O : w6 mem v with
  | true =>
   rw [O] at h K
   simp only [yl] at h
   obtain ⟨iv, hiv, h, _⟩ := aO U h
   split at h
   ·rename_i kd i
    obtain ⟨out, h, hm⟩ := Iq ht h
    exact ⟨out, h, M K (by unfold F3; rw [I]; simp only [hv, hiv, ye]; exact hm)⟩
   ·cases h
  | false => rw [O] at h K; exact plain K h
 ·rename_i c I
  split at h
  ·rename_i N
   obtain ⟨args, H, h, _⟩ := jY U h
   split at h
   ·rename_i t x Y _hgn
    have K : bG own (bW tmps) (aB mem) o.op = LB mem x := by
     rw [I]
     show (match c.callee, c.args.toList with
      | .builtin .len, [x] => lJ (bW tmps) (If (aB mem)) x
      | .builtin .append, [x, _] => own || lJ (bW tmps) (zQ (aB mem)) x
      | _, _ => false) = _
     rw [N]
     cases hl : c.args.toList with
     | nil => rw [hl] at H; cases H
     | cons a as =>
      rw [hl] at H
      simp only [m7, C3, KV.downs] at H
      obtain ⟨w, hw, H⟩ := H
      rw [yc] at H
      obtain ⟨ws, J, e⟩ := H
      obtain ⟨rfl, rfl⟩ := yx e
      cases as with
      | cons b bs =>
       simp only [m7, C3] at J
       obtain ⟨_, _, J⟩ := J
       rw [yc] at J
       obtain ⟨_, _, e⟩ := J
       cases e
      | nil => simp only; rw [Bb hw, Mp]
    cases O : LB mem x with
    | true =>
     rw [O] at h K
     obtain ⟨out, h, hm⟩ := MV ht h
     refine ⟨out, h, M K ?_⟩
     unfold F3; rw [I]; simp only [H, ye, N, KV.downs, Y, kR]; exact hm
    | false => rw [O] at h K; exact plain K h
   ·rename_i args _ _ hno _hgn
    have Z := h
    obtain ⟨out, h, hop'⟩ := LY ht hC U h
    exfalso
    -- the operation answers nothing at other numbers of arguments
    unfold IM at Z
    rw [I] at Z
    simp only [N] at Z
    obtain ⟨args2, V, Z, _⟩ := jY U Z
    unfold Ax at Z
    simp only at Z
    split at Z
    ·rename_i t x Y _
     rw [H] at V
     have : ∃ y, args = [y] := by
      have e := ya V
      cases args with
      | nil => cases e
      | cons y ys => cases ys with
       | nil => exact ⟨y, rfl⟩
       | cons z zs => simp [KV.downs] at e
     obtain ⟨y, rfl⟩ := this
     exact hno _ _ Y rfl
    ·cases Z
  ·rename_i N
   obtain ⟨args, H, h, _⟩ := jY U h
   split at h
   ·rename_i t tx x y Y _hgn
    have K : bG own (bW tmps) (aB mem) o.op = (own || w6 mem x) := by
     rw [I]
     show (match c.callee, c.args.toList with
      | .builtin .len, [x] => lJ (bW tmps) (If (aB mem)) x
      | .builtin .append, [x, _] => own || lJ (bW tmps) (zQ (aB mem)) x
      | _, _ => false) = _
     rw [N]
     cases hl : c.args.toList with
     | nil => rw [hl] at H; cases H
     | cons a as =>
      rw [hl] at H
      simp only [m7, C3, KV.downs] at H
      obtain ⟨w, hw, H⟩ := H
      rw [yc] at H
      obtain ⟨ws, J, e⟩ := H
      obtain ⟨rfl, rfl⟩ := yx e
      cases as with
      | nil => cases J
      | cons b bs => cases bs with
       | nil => simp only; rw [Bb hw, BC]
       | cons b' bs =>
        simp only [m7, C3] at J
        obtain ⟨_, _, J⟩ := J
        rw [yc] at J
        obtain ⟨_, J, e⟩ := J
        rw [C3] at J
        obtain ⟨_, _, J⟩ := J
        rw [yc] at J
        obtain ⟨_, _, e2⟩ := J
        subst e2
        cases e
    cases O : own || w6 mem x with
    | true =>
     rw [O] at h K
     obtain ⟨out, h, hm⟩ := HM ht h
     refine ⟨out, h, M K ?_⟩
     unfold F3; rw [I]; simp only [H, ye, N, KV.downs, Y, kR]; exact hm
    | false => rw [O] at h K; exact plain K h
   ·cases h
  ·rename_i h1 Z
   refine plain ?_ h
   rw [I]
   show (match c.callee, c.args.toList with
    | .builtin .len, [x] => lJ (bW tmps) (If (aB mem)) x
    | .builtin .append, [x, _] => own || lJ (bW tmps) (zQ (aB mem)) x
    | _, _ => false) = _
   split
   ·rename_i e _; exact (h1 e).elim
   ·rename_i e _; exact (Z e).elim
   ·rfl
 ·rename_i g1 g2 g3 g4 g5 g6 g7 g8 g9
  refine plain ?_ h
  unfold bG
  split <;> first
   | rfl
   | (rename_i e; exact (g1 _ e).elim)
   | (rename_i e; exact (g2 _ e).elim)
   | (rename_i e; exact (g3 _ _ _ e).elim)
   | (rename_i e; exact (g4 _ _ _ e).elim)
   | (rename_i e; exact (g5 _ _ e).elim)
   | (rename_i e; exact (g6 _ _ _ e).elim)
   | (rename_i e; exact (g7 _ _ _ _ _ e).elim)
   | (rename_i e; exact (g8 _ _ _ e).elim)
   | (rename_i e; exact (g9 _ e).elim)
end
end Go.Ab
