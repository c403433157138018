import Derived.Test.YtdlbbdbbpoggfaaLib19
set_option linter.unusedVariables false
set_option linter.unusedSectionVars false
set_option linter.unusedSimpArgs false
namespace Go.Ab
variable [b4]
section
variable {P : Program} {R : Type} {r : R} {mem : aD} {tab : TypeId → Option TI} {C : bQ} {tbl : FuncId → List aC}
theorem pK (mem : aD) (b : Nat) : vT (aB mem) b = BD mem b := by
 unfold vT BD
 rw [HP]
 cases dZ mem b with
 | none => rfl
 | some y => cases y with
  | none => rfl
  | some x => exact dJ x.row
theorem Bt (mem : aD) (v : KV) : y0 (aB mem) v.down = x9 mem v := by
 cases v with
 | msw b g => exact pK mem b
 | ms b g o n => exact pK mem b
 | _ => rfl
theorem Mk (mem : aD) (v : KV) : HQ (aB mem) v.down = LI mem v := by
 cases v with
 | msw b g => exact pK mem b
 | _ => rfl
theorem GC (mem : aD) (v : KV) : Hg (aB mem) v.down = Ey mem v := by
 cases v with
 | ptr b g i c => exact pK mem b
 | _ => rfl
theorem NK (c : Nat) : ∀ hs : c5, zX c (aV hs) = aV (Eb c hs)
 | [] => rfl
 | (i, H, v) :: r => by
  simp only [aV, zX, Eb]
  cases Nat.beq c H with
  | true => rfl
  | false => simp only [yk, aV, NK c r]
theorem kO (a b : c5) : aV (a ++ b) = aV a ++ aV b := by
 induction a with
 | nil => rfl
 | cons h a H => simp only [yp2, aV, H]
theorem H2 (a b : aD) : aB (a ++ b) = aB a ++ aB b := by simp [aB]
noncomputable def OO (P : Program) : List Ty → List LK → Bool
 | [], [] => true
 | T :: Ts, l :: ls => aS P T [l] && OO P Ts ls
 | _, _ => false
theorem In : ∀ {T : Ty} {ls : List LK}, aS P T ls = true → OO P (c7 T) ls = true
 | .cons a b, ls, h => by
  simp only [aS] at h
  split at h
  ·rename_i l ls
   simp only [yb] at h
   simp only [c7, fO (nb.1 h.1.1), List.singleton_append, OO, yb]
   exact ⟨h.1.2, In h.2⟩
  ·cases h
 | .int k, ls, h => one rfl h
 | .bool, ls, h => one rfl h
 | .str, ls, h => one rfl h
 | .sl ag T, ls, h => one rfl h
 where
 one {T : Ty} {ls : List LK} (H : T.size = 1) (h : aS P T ls = true) : OO P (c7 T) ls = true := by
  obtain ⟨l, rfl⟩ := Bg H h
  rw [fO H]
  simp only [OO, h, yo3]
theorem Mi {T : Ty} {u : Value} (h : iK T (.lit u) = true) : T.flat = true := by
 cases T <;> first | rfl | (cases u <;> cases h)
theorem FQ (ag : Bool) (T : Ty) (xs : List (den T)) : cV (dN ag T xs) = some (KRow.ts false ag T xs).down := by
 cases H : aY ag T with
 | true => obtain ⟨rfl, kk, rfl⟩ := aK.1 H; rfl
 | false =>
  rw [bX H, KRow.down_sl H]
  simp only [cV]
  rw [eB]
  exact ⟨nl.2 Ty.size_pos, rfl⟩
theorem Kg {tk : Bool} {i c : Nat} {v : KV} {hs : c5} {nb : Nat} {k : KV → c5 → List KRow → Option R} {xs : List PV} {p q : PV} {l : LK} {T : Ty} (N : aS P T [l] = true) (J : iK T v = true)
  (U : xs[i]? = some p) (V : p.cells[c]? = some q) (H : j3 true v q) (h : A1 (aP R) tk i c v hs nb k = some r) :
  ∃ a hs' rows, k a hs' rows = some r ∧ nR tk xs i c l (aV hs) nb = some (a.down, aV hs', rows.map KRow.down) := by
 unfold A1 at h
 unfold nR
 simp only [U, V, ye, vS]
 cases M : lK c hs with
 | some hh =>
  rw [M] at h
  simp only [real_guard] at h
  rw [bR] at h
  refine ⟨_, _, _, h.2, ?_⟩
  simp only [yg]
  rw [eB]
  exact ⟨h.1, rfl⟩
 | none =>
  rw [M] at h
  simp only [yh2] at h ⊢
  have I := qD N
  simp only [yh3, List.all_nil, yg3] at I
  split at h
  ·rename_i u
   rw [I, Mi J]
   refine ⟨_, _, _, h, ?_⟩
   simp only [yl, vK N J H, yg]; rfl
  ·rename_i β ag Y W
   rw [bR] at h
   cases T with
   | sl O T2 =>
    rw [I]
    refine ⟨_, _, _, h.2, ?_⟩
    show guardB tk _ = _
    rw [eB]
    refine ⟨h.1, ?_⟩
    have K : q = dN ag Y W := by
     rcases H with ⟨_, _, e, _⟩ | ⟨_, e, _⟩ | ⟨_, e, _⟩ | ⟨_, _, _, e, rfl⟩ <;> cases e
     rfl
    rw [K, FQ]; rfl
   | _ => cases J
  ·cases h
theorem Cy {tk : Bool} {i : Nat} {xs : List PV} {p : PV} (W : xs[i]? = some p) : ∀ {vs : List KV} {N : List Ty} {ls : List LK} {c : Nat} {hs : c5} {nb : Nat} {k : List KV → c5 → List KRow → Option R},
  OO P N ls = true → aQ N vs = true → (∀ (j : Nat) (v : KV), vs[j]? = some v → ∃ q, p.cells[c + j]? = some q ∧ j3 true v q) → C1 (aP R) tk i vs c hs nb k = some r →
   ∃ as hs' rows, k as hs' rows = some r ∧ n7 tk xs i ls c (aV hs) nb = some (KV.downs as, aV hs', rows.map KRow.down)
 | [], [], [], c, hs, nb, k, I, H, J, h => ⟨[], hs, [], h, rfl⟩
 | v :: vs, T :: N, l :: ls, c, hs, nb, k, I, H, J, h => by
  simp only [OO, yb] at I
  simp only [aQ, yb] at H
  obtain ⟨q, M, O⟩ := J 0 v rfl
  rw [ym1] at M
  simp only [C1] at h
  obtain ⟨a, hs1, rows, h, hr⟩ := Kg I.1 H.1 W M O h
  obtain ⟨as, V, K, h, U⟩ := Cy W (c := c + 1) I.2 H.2 (fun j w hj => by
   obtain ⟨q, Y, Z⟩ := J (j + 1) w (by simpa using hj)
   exact ⟨q, by rw [show c + 1 + j = c + (j + 1) by omega]; exact Y, Z⟩) h
  refine ⟨a :: as, V, rows ++ K, h, ?_⟩
  simp only [n7, hr, ye, ye1, U, yg, KV.downs, yk3]
 | [], _ :: _, _, _, _, _, _, I, H, J, h => by cases H
 | _ :: _, [], _, _, _, _, _, I, H, J, h => by cases H
 | [], [], _ :: _, _, _, _, _, I, H, J, h => by cases I
 | _ :: _, _ :: _, [], _, _, _, _, I, H, J, h => by cases I
theorem qC : ∀ rows : List KRow, eS (rows.map KRow.down) = aB (oO rows)
 | [] => rfl
 | r :: rs => by
  have H := qC rs
  simp only [yx1, eS, oO, H]; rfl
theorem GS (b : Nat) (H : dD) (T : Ty) (xs : List (den T)) (v : KV) (hs : c5) (rows : List KRow) :
  (Lo b H T xs v hs rows).down = AC b T.size H.down (xs.map (cT (eY T) T)) v.down (aV hs, rows.map KRow.down) := by
 cases rows with
 | nil => rfl
 | cons r rs =>
  show dE.mk _ _ _ (aB (oO (r :: rs))) = _
  rw [← qC]; rfl
theorem K1 (ht : bG P tab) {tk : Bool} {t : TypeId} {a : KV} {k : aZ → Option R} (h : Kx (aP R) tab tk t mem a k = some r) : ∃ out, k out = some r ∧ zS P tk t (aB mem) a.down = some out.down := by
 unfold Kx at h
 split at h
 ·rename_i ti V
  have H := bU.of (ht _ _ V)
  split at h
  ·rename_i b g i c
   obtain ⟨Z, N, h⟩ := eW h
   split at h
   ·rename_i T xs hs J
    split at h
    ·rename_i T' U
     simp only [real_getN] at h
     rw [C7] at h
     obtain ⟨x, hx, h⟩ := h
     rw [bR] at h
     obtain ⟨hl, h⟩ := h
     obtain ⟨⟨ls, M, hc⟩, hn, hag, _⟩ := H.ty T' U
     have hp : (xs.map (cT (eY T) T))[i]? = some (cT (eY T) T x) := by rw [yb1, hx]; rfl
     have hq : ∀ (j : Nat) (v : KV), (((cellsOf true T x).drop c).take ti.n)[j]? = some v → ∃ q, (cT (eY T) T x).cells[c + j]? = some q ∧ j3 true v q := by
      intro j v K
      rw [yj1] at K
      split at K
      ·rw [yz] at K
       rw [b6]; exact (jH (β := true) (x := x)).2 _ v K
      ·cases K
     have hd : Z.down.row = .own T.size (xs.map (cT (eY T) T)) (aV hs) := by rw [show Z.down.row = Z.row.down from rfl, J]; rfl
     obtain ⟨as, hs', rows, h, hr⟩ := Cy hp (In hc) hl hq h
     cases O : ti.ag with
     | true =>
      rw [O] at h; simp only [yl] at h
      refine ⟨_, h, ?_⟩
      have I := H.ag; rw [O] at I
      simp only [KV.down, zS, N, ye, hd, I, M, H.n]
      rw [eB]
      refine ⟨nb.2 (by rw [d6 hc, hn]), ?_⟩
      rw [d7, hr, yg, GS]; rfl
     | false =>
      rw [O] at h; simp only [yk] at h
      have I := H.ag; rw [O] at I
      obtain ⟨l, W, rfl⟩ := e5 I M
      split at h
      ·rename_i v
       refine ⟨_, h, ?_⟩
       simp only [KV.down, zS, N, ye, hd, I, W]
       rw [d7]
       simp only [n7, C7] at hr
       obtain ⟨q, hq1, hr⟩ := hr
       rw [yc] at hr
       obtain ⟨q2, Y, hr⟩ := hr
       obtain rfl := ya Y
       simp only [yg1, Prod.mk.injEq, KV.downs, List.cons.injEq, and_true] at hr
       obtain ⟨e1, e2, e3⟩ := hr
       rw [hq1, yg, GS, e1, ← e2, ← e3]
      ·cases h
    ·cases h
   ·cases h
  ·cases h
 ·cases h
theorem yU {i c : Nat} {hs : c5} {k : c5 → Option R} (h : Ek (aP R) i c hs k = some r) : ∃ hs', k hs' = some r ∧ CC i c (aV hs) = some (aV hs') := by
 unfold Ek at h
 unfold CC
 rw [vS]
 cases H : lK c hs with
 | none => rw [H] at h; exact ⟨hs, h, rfl⟩
 | some q =>
  rw [H] at h
  simp only [real_guard] at h
  rw [bR] at h
  obtain ⟨I, h⟩ := h
  rw [bR] at h
  refine ⟨_, h.2, ?_⟩
  simp only [yg]
  rw [eB]
  rw [NK, vS, qN, ← wB, yb]
  exact ⟨⟨h.1, I⟩, rfl⟩
theorem Ke (ag : Bool) (T : Ty) (xs : List (den T)) : Ah (dN ag T xs) = some (dN ag T []) := by
 cases H : aY ag T with
 | true => obtain ⟨rfl, kk, rfl⟩ := aK.1 H; rfl
 | false =>
  rw [bX H, bX H]
  simp only [Ah]
  rw [eB]
  exact ⟨nl.2 Ty.size_pos, rfl⟩
theorem Hx {u v : Value} (h : De u v = true) : j3 false (.lit v) (.lit v) := by
 unfold De at h
 split at h
 ·exact .inl ⟨_, _, rfl, rfl⟩
 ·exact .inr (.inl ⟨_, rfl, rfl⟩)
 ·exact .inr (.inr (.inl ⟨_, rfl, rfl⟩))
 ·cases h
theorem K6 (ag : Bool) (T : Ty) (xs : List (den T)) : (∃ k H, dN ag T xs = .ints k H) ∨ ∃ e H, dN ag T xs = .sl e H := by
 cases I : aY ag T with
 | true => obtain ⟨rfl, J, rfl⟩ := aK.1 I; exact .inl ⟨J, xs, rfl⟩
 | false => exact .inr ⟨_, _, bX I xs⟩
theorem Ca {t : TypeId} {m : aH} {b g i c e : Nat} {I : a9} {xs : List PV} {hs hs' : List (Nat × Nat × AV)} {p y : PV} {x : AV} (M : boxO? m b g = some I) (hr : I.row = .own e xs hs) (hn : iN P t = some 1) (N : I.frz = false) (W : H0 x = true)
  (V : ∀ v, x ≠ .lit v) (O : xs[i]? = some p) (U : p.cells[c]? = some y) (K : (∃ k H, y = .ints k H) ∨ ∃ e H, y = .sl e H) (J : CC i c hs = some hs') :
  lF P t m (.ptr b g i c) x = some { v := .lit undef, rd := [b], wr := [(b, { I with row := .own e xs ((i, c, x) :: hs') })] } := by
 simp only [lF, M, hr, hn, N, W, ye, O, U]
 rw [eB]
 refine ⟨rfl, ?_⟩
 rcases K with ⟨k, H, rfl⟩ | ⟨e', H, rfl⟩ <;> cases x <;> first | exact absurd rfl (V _) | simp only [J, yg]
theorem Kp {t : TypeId} {m : aH} {b g i c e : Nat} {I : a9} {xs : List PV} {hs hs' : List (Nat × Nat × AV)} {p y M : PV} (N : boxO? m b g = some I) (hr : I.row = .own e xs hs) (hn : iN P t = some 1) (O : I.frz = false)
  (U : xs[i]? = some p) (V : p.cells[c]? = some y) (K : (∃ k H, y = .ints k H) ∨ ∃ e H, y = .sl e H) (W : Ah y = some M) (J : CC i c hs = some hs') :
  lF P t m (.ptr b g i c) (.lit (.slice none 0 0)) = some { v := .lit undef, rd := [b], wr := [(b, { I with row := .own e (xs.set i (jA p c M)) hs' })] } := by
 simp only [lF, N, hr, hn, O, ye, U, V]
 rw [eB]
 refine ⟨rfl, ?_⟩
 rcases K with ⟨k, H, rfl⟩ | ⟨e', H, rfl⟩ <;> simp only [W, ye, J, yg]
theorem JX (ht : bG P tab) {t : TypeId} {a x : KV} {k : aZ → Option R} (h : G8 (aP R) tab t mem a x k = some r) : ∃ out, k out = some r ∧ lF P t (aB mem) a.down x.down = some out.down := by
 unfold G8 at h
 split at h
 ·rename_i ti hti
  have hok := bU.of (ht _ _ hti)
  split at h
  ·rename_i b g i c
   obtain ⟨bx, M, h⟩ := eW h
   split at h
   ·rename_i T xs hs Z
    rw [bR] at h
    obtain ⟨hg, h⟩ := h
    simp only [yb, yq] at hg
    obtain ⟨⟨g1, g2⟩, g3⟩ := hg
    simp only [real_getN] at h
    rw [C7] at h
    obtain ⟨p, hp, h⟩ := h
    have hn : iN P t = some 1 := by rw [hok.n, nb.1 g1]
    have hd : bx.down.row = .own T.size (xs.map (cT (eY T) T)) (aV hs) := by rw [show bx.down.row = bx.row.down from rfl, Z]; rfl
    have K : (xs.map (cT (eY T) T))[i]? = some (cT (eY T) T p) := by rw [yb1, hp]; rfl
    split at h
    ·rename_i u H
     rw [aX] at H
     obtain ⟨y, hy, U⟩ := (dF.of false T p).2 _ _ H
     have I : y = .lit u := by
      rcases U with ⟨_, _, e, rfl⟩ | ⟨_, e, rfl⟩ | ⟨_, e, rfl⟩ | ⟨_, _, _, e, _⟩ <;> cases e <;> rfl
     subst I
     split at h
     ·rename_i v
      rw [bR] at h
      obtain ⟨W, h⟩ := h
      simp only [yb] at W
      have Y : c < (aM T p).length := (yd.1 hy).1
      rw [vX] at h
      obtain ⟨z, _, _, h, hz⟩ := kY ((dF.of false T p).set (Hx W.1) c) h
      refine ⟨_, h, ?_⟩
      simp only [KV.down, lF, M, hd, hn, ye, K, b6, hy, show bx.down.frz = bx.frz from rfl, g2]
      rw [eB]
      refine ⟨oL g3, ?_⟩
      rw [eB]
      refine ⟨?_, ?_⟩
      ·rw [yb, vS, qN, ← wB]; exact W
      ·rw [Fy Y hz, KS]; rfl
     ·cases h
    ·rename_i β N T' ys H
     rw [aX] at H
     obtain ⟨y, hy, U⟩ := (dF.of false T p).2 _ _ H
     have I : y = dN N T' ys := by
      rcases U with ⟨_, _, e, _⟩ | ⟨_, e, _⟩ | ⟨_, e, _⟩ | ⟨_, _, _, e, rfl⟩ <;> cases e
      rfl
     have V : (cT (eY T) T p).cells[c]? = some y := by rw [b6]; exact hy
     have O : (∃ k ys, y = .ints k ys) ∨ ∃ e ys, y = .sl e ys := by rw [I]; exact K6 _ _ _
     split at h
     ·obtain ⟨hs', h, J⟩ := yU h
      have Y : c < (aM T p).length := (yd.1 hy).1
      rw [vX] at h
      obtain ⟨z, _, _, h, hz⟩ := kY ((dF.of false T p).set (v := .tsl false N T' []) (q := dN N T' []) (.inr (.inr (.inr ⟨_, _, _, rfl, rfl⟩))) c) h
      refine ⟨_, h, ?_⟩
      have := Kp (P := P) M hd hn g2 K V O (by rw [I]; exact Ke _ _ _) J
      rw [Fy Y hz, KS] at this
      exact this
     ·obtain ⟨hs', h, J⟩ := yU h
      exact ⟨_, h, Ca (P := P) M hd hn g2 (oL g3) (by simp [KV.down]) K V O J⟩
     ·obtain ⟨hs', h, J⟩ := yU h
      exact ⟨_, h, Ca (P := P) M hd hn g2 (oL g3) (by simp [KV.down]) K V O J⟩
     ·cases h
    ·cases h
   ·cases h
  ·cases h
 ·cases h
theorem Md (ht : bG P tab) {t : TypeId} {x : KV} {k : aZ → Option R} (h : Nt tab t mem x k = some r) : ∃ out, k out = some r ∧ JZ P t (aB mem) x.down = some out.down := by
 unfold Nt at h
 split at h
 ·rename_i ti I
  have J := bU.of (ht _ _ I)
  split at h
  ·rename_i et b g N
   obtain ⟨M, K, h⟩ := eW h
   split at h
   ·rename_i T xs hs H
    refine ⟨_, h, ?_⟩
    simp only [KV.down, JZ, J.under_sl N, K, yg, show M.down.row = M.row.down from rfl, pN, H]
    rfl
   ·cases h
  ·cases h
 ·cases h
theorem JE (ht : bG P tab) {t : TypeId} {x : KV} {i : Int} {k : aZ → Option R} (h : He (aP R) tab t mem x i k = some r) : ∃ out, k out = some r ∧ qT P t (aB mem) x.down i = some out.down := by
 unfold He at h
 have O := fQ ht h
 clear h
 obtain ⟨et, te, N, K, h, M⟩ := O
 have I := bU.of (ht _ _ K)
 split at h
 ·rename_i b g o n
  obtain ⟨J, H, h⟩ := eW h
  rw [bR] at h
  obtain ⟨hn, h⟩ := h
  simp only [real_guard] at h
  rw [bR] at h
  refine ⟨_, h.2, ?_⟩
  simp only [qT, KV.down, M, I.n, ye, H, show J.down.row = J.row.down from rfl, wY, eB, hn, h.1, yl3]
  exact ⟨by simp, rfl⟩
 ·rename_i b g
  obtain ⟨J, H, h⟩ := eW h
  rw [bR] at h
  obtain ⟨hn, h⟩ := h
  simp only [real_guard] at h
  rw [bR] at h
  refine ⟨_, h.2, ?_⟩
  simp only [qT, KV.down, M, I.n, ye, H, show J.down.row = J.row.down from rfl, wY, pN, eB, hn, h.1, yl3]
  exact ⟨by simp, rfl⟩
 ·cases h
theorem IW (ht : bG P tab) {t : TypeId} {x : KV} {U N V : Option Int} {k : aZ → Option R} (h : Hv (aP R) tab t mem x U N V k = some r) : ∃ out, k out = some r ∧ qJ P t (aB mem) x.down U N V = some out.down := by
 unfold Hv at h
 have Y := fQ ht h
 clear h
 obtain ⟨et, te, W, K, h, O⟩ := Y
 have I := bU.of (ht _ _ K)
 split at h
 ·rename_i b g o n
  obtain ⟨J, H, h⟩ := eW h
  rw [bR] at h
  obtain ⟨hn, h⟩ := h
  obtain ⟨q, M, h⟩ := fF h
  refine ⟨_, h, ?_⟩
  simp only [qJ, KV.down, O, I.n, ye, H, show J.down.row = J.row.down from rfl, wY, eB, hn, M, yg]
  exact ⟨trivial, rfl⟩
 ·rename_i b g
  obtain ⟨J, H, h⟩ := eW h
  rw [bR] at h
  obtain ⟨hn, h⟩ := h
  obtain ⟨q, M, h⟩ := fF h
  refine ⟨_, h, ?_⟩
  simp only [qJ, KV.down, O, I.n, ye, H, show J.down.row = J.row.down from rfl, wY, pN, eB, hn, M, yg]
  exact ⟨trivial, rfl⟩
 ·cases h
theorem LZ {ag : Bool} {T : Ty} {l : LK} (H : aS P (.sl ag T) [l] = true) : (∃ k, l = .ints k ∧ ag = false ∧ T = .int k) ∨ (∃ t, l = .sl t T.size ∧ aY ag T = false) := by
 simp only [aS] at H
 split at H
 ·rename_i k I
  obtain rfl := (yx I).1
  cases ag with
  | true => simp at H
  | false =>
   cases T with
   | int k' => simp only at H; obtain rfl := rW.1 H; exact .inl ⟨k, rfl, rfl, rfl⟩
   | _ => simp at H
 ·rename_i t e I
  obtain rfl := (yx I).1
  simp only [yb, yq] at H
  obtain rfl := nb.1 H.1.1.1.1
  exact .inr ⟨t, rfl, H.1.1.1.2⟩
 ·cases H
theorem A9 {T : Ty} {l : LK} (H : aS P T [l] = true) : (∀ k, T = .int k → l = .int k) ∧ (T = .bool → l = .bool) ∧ (T = .str → l = .str) := by
 refine ⟨?_, ?_, ?_⟩
 ·rintro k rfl
  simp only [aS] at H
  split at H
  ·rename_i k' I; obtain rfl := (yx I).1; rw [rW.1 H]
  ·cases H
 ·rintro rfl
  simp only [aS] at H
  split at H
  ·rename_i I; exact (yx I).1
  ·cases H
 ·rintro rfl
  simp only [aS] at H
  split at H
  ·rename_i I; exact (yx I).1
  ·cases H
theorem KD {T : Ty} {l : LK} {v : KV} {j c : Nat} {a : KV × c5} (H : aS P T [l] = true) (h : Ks T v j c = some a) :
  ∃ q, AS l v.down j c = some (q, aV a.2) ∧ j3 false a.1 q := by
 have hole : ∀ {ag : Bool} {T : Ty} {w : AV} (J : (∃ b g, w = .msw b g) ∨ (∃ b g o n, w = .ms b g o n)) (H : aS P (.sl ag T) [l] = true), AS l w j c = some (dN ag T [], [(j, c, w)]) := by
  intro ag T w J H
  rcases LZ H with ⟨k, rfl, rfl, rfl⟩ | ⟨t, rfl, I⟩
  ·rcases J with ⟨b, g, rfl⟩ | ⟨b, g, o, n, rfl⟩ <;> rfl
  ·rw [bX I]
   rcases J with ⟨b, g, rfl⟩ | ⟨b, g, o, n, rfl⟩
   ·simp only [AS]; rw [eB]; exact ⟨nl.2 Ty.size_pos, rfl⟩
   ·simp only [AS]; rw [eB]; exact ⟨nl.2 Ty.size_pos, rfl⟩
 unfold Ks at h
 split at h
 ·rename_i k k' x
  rw [bR] at h
  obtain ⟨K, h⟩ := h
  obtain rfl := ya h
  obtain rfl := rW.1 K
  rw [(A9 H).1 _ rfl]
  refine ⟨.lit (.int k x), ?_, .inl ⟨_, _, rfl, rfl⟩⟩
  simp only [KV.down, AS]; rw [eB]; exact ⟨K, rfl⟩
 ·obtain rfl := ya h
  rw [(A9 H).2.1 rfl]
  exact ⟨_, rfl, .inr (.inl ⟨_, rfl, rfl⟩)⟩
 ·obtain rfl := ya h
  rw [(A9 H).2.2 rfl]
  exact ⟨_, rfl, .inr (.inr (.inl ⟨_, rfl, rfl⟩))⟩
 ·rename_i ag T
  obtain rfl := ya h
  refine ⟨dN ag T [], ?_, .inr (.inr (.inr ⟨_, _, _, rfl, rfl⟩))⟩
  rcases LZ H with ⟨k, rfl, rfl, rfl⟩ | ⟨t, rfl, I⟩
  ·rfl
  ·rw [bX I]
   simp only [KV.down, AS]; rw [eB]; exact ⟨nl.2 Ty.size_pos, rfl⟩
 ·rename_i ag T b g
  obtain rfl := ya h
  exact ⟨dN ag T [], hole (.inl ⟨_, _, rfl⟩) H, .inr (.inr (.inr ⟨_, _, _, rfl, rfl⟩))⟩
 ·rename_i ag T b g o n
  obtain rfl := ya h
  exact ⟨dN ag T [], hole (.inr ⟨_, _, _, _, rfl⟩) H, .inr (.inr (.inr ⟨_, _, _, rfl, rfl⟩))⟩
 ·cases h
theorem FU : ∀ {K : List Ty} {ls : List LK} {vs : List KV} {j c : Nat} {a : List KV × c5}, OO P K ls = true → Nx K vs j c = some a → ∃ qs, Ma ls (KV.downs vs) j c = some (qs, aV a.2) ∧ dF false a.1 qs
 | [], [], [], j, c, a, H, h => by
  obtain rfl := ya h
  exact ⟨[], rfl, rfl, fun j v J => by cases J⟩
 | T :: K, l :: ls, v :: vs, j, c, a, H, h => by
  simp only [OO, yb] at H
  simp only [Nx] at h
  split at h
  ·rename_i a1 O
   split at h
   ·rename_i a2 U
    obtain rfl := ya h
    obtain ⟨q, V, M⟩ := KD H.1 O
    obtain ⟨qs, N, I⟩ := FU H.2 U
    refine ⟨q :: qs, ?_, ?_, ?_⟩
    ·simp only [KV.downs, Ma, V, ye, N, yg, kO]
    ·simp only [yg2, I.1]
    ·intro j v J
     cases j with
     | zero => obtain rfl := ya J; exact ⟨q, rfl, M⟩
     | succ j => exact I.2 j v (by simpa using J)
   ·cases h
  ·cases h
 | [], _ :: _, _, _, _, _, H, h => by cases H
 | _ :: _, [], _, _, _, _, H, h => by cases H
 | [], _, _ :: _, _, _, _, _, h => by cases h
 | _ :: _, _, [], _, _, _, _, h => by cases h
theorem o4 {t : TypeId} {T : Ty} {ls : List LK} (K : aS P T ls = true) (M : isAgg? P t = some (eY T)) (hs : eY T = false → T.size = 1) : ∀ {H : List (List KV)} {j : Nat} {k : List (den T) → c5 → Option R}, Ff (aP R) T H j k = some r →
  ∃ xs hs, k xs hs = some r ∧ CQ P t ls (H.map KV.downs) j = some (xs.map (cT (eY T) T), aV hs)
 | [], j, k, h => ⟨[], [], h, rfl⟩
 | cs :: H, j, k, h => by
  simp only [Ff] at h
  split at h
  ·rename_i a N
   obtain ⟨qs, O, I⟩ := FU (In K) N
   obtain ⟨x, _, _, h, U⟩ := kY I h
   obtain ⟨xs, hs', h, J⟩ := o4 K M hs h
   refine ⟨x :: xs, a.2 ++ hs', h, ?_⟩
   simp only [yx1, CQ, O, ye, ← U, pA M hs, J, yg, kO]
  ·cases h
theorem qP {n : Nat} : ∀ {hs : c5} {k : Option R}, vM (aP R) n hs k = some r → k = some r ∧ kJ n (aV hs) = true
 | [], k, h => ⟨h, rfl⟩
 | (i, c, v) :: hs, k, h => by
  simp only [vM, real_guard] at h
  rw [bR] at h
  obtain ⟨I, H⟩ := qP h.2
  exact ⟨I, by simp only [aV, kJ, h.1, H, yo3]⟩
theorem rY (e n : Nat) (cs : List KV) : chunks e n (KV.downs cs) = (chunks e n cs).map KV.downs := by
 rw [cY, zB]
 congr 1
 funext l
 exact (cY l).symm
theorem H8 (ht : bG P tab) {own : Bool} {t tx : TypeId} {rs : Nat} {x y : KV} {k : aZ → Option R} (h : FT (aP R) tab own t tx mem rs x y k = some r) :
  ∃ out, k out = some r ∧ l4 P own t tx (aB mem) rs x.down y.down = some out.down := by
 unfold FT at h
 have h0 := fQ ht h
 clear h
 obtain ⟨et, N, het, hte, h0, hu⟩ := h0
 have I := bU.of (ht _ _ hte)
 have h := Bw ht h0
 clear h0
 obtain ⟨yr, J, h, hyv⟩ := h
 split at h
 ·rename_i e cs
  split at h
  ·rename_i T hT
   rw [bR] at h
   obtain ⟨O, h⟩ := h
   simp only [yb] at O
   obtain ⟨⟨⟨⟨⟨⟨g1, g2⟩, g3⟩, g4⟩, g5⟩, g6⟩, g7⟩ := O
   obtain ⟨⟨ls, hls, hc⟩, hn, M, _⟩ := I.ty T hT
   have g7 := Ip.1 g7
   have hz := I.zero_eq.1
   have ha := I.ag
   rw [g7] at ha M
   have V : ∀ {W : Option dE} {o : dE}, W = some o → (match x.down with
     | .lit (.slice none 0 0) => guardB own ((CQ P et ls (chunks N.n (aN N.n cs.length) (KV.downs cs)) 0).bind fun q => guardB (Nat.ble 1 q.1.length && Nat.ble q.1.length bD)
       (some { v := .msw rs 0, rd := J, wr := [(rs, { gen := 0, frz := false, row := .own N.n q.1 q.2 })] }))
     | .msw b g => (boxO? (aB mem) b g).bind fun H => match H.row with
      | .own e' xs hs => (CQ P et ls (chunks N.n (aN N.n cs.length) (KV.downs cs)) xs.length).bind fun q => guardB (!H.frz && Nat.beq N.n e' && kJ xs.length hs && Nat.ble (xs ++ q.1).length bD)
        (some { v := .msw b (g + 1), rd := b :: J, wr := [(b, { gen := g + 1, frz := false, row := .own e' (xs ++ q.1) (hs ++ q.2) })] })
      | _ => none
     | .ms b g 0 n => (boxO? (aB mem) b g).bind fun H => match H.row with
      | .own e' xs hs => (CQ P et ls (chunks N.n (aN N.n cs.length) (KV.downs cs)) n).bind fun q => guardB (!H.frz && Nat.beq N.n e' && Nat.ble n xs.length && kJ n hs && Nat.ble (xs.take n ++ q.1).length bD)
        (some { v := .msw b (g + 1), rd := b :: J, wr := [(b, { gen := g + 1, frz := false, row := .own e' (xs.take n ++ q.1) (hs ++ q.2) })] })
      | _ => none
     | _ => none) = W → l4 P own t tx (aB mem) rs x.down y.down = some o := by
    intro W o hres hm
    unfold l4
    simp only [het, ye, I.n, I.bytes, hz, hls, hyv, KRow.view]
    rw [eB]
    refine ⟨?_, ?_⟩
    ·simp only [yb]
     refine ⟨⟨⟨⟨⟨⟨g1, zJ ht g2⟩, g3⟩, g4⟩, ?_⟩, ?_⟩, eU g6⟩
     ·rw [(zeroCells I).1, aG, (zeroCells I).2.2]; exact g5
     ·rw [d6 hc, hn]; exact nb.2 rfl
    ·rw [aG]; exact hm.trans hres
   split at h
   ·rw [bR] at h
    obtain ⟨ho, h⟩ := h
    obtain ⟨xs, hs, h, he⟩ := o4 (t := et) hc ha M h
    rw [real_guard, bR] at h
    refine ⟨_, h.2, V (o := (aZ.mk (.msw rs 0) J [(rs, ⟨0, false, .os T xs hs⟩)] []).down) rfl ?_⟩
    simp only [KV.down, rY, he, ye]
    rw [eB]
    refine ⟨ho, ?_⟩
    rw [eB]
    refine ⟨by rw [ye1]; exact h.1, ?_⟩
    rw [← hn]; rfl
   ·rename_i b g
    obtain ⟨H, Y, h⟩ := eW h
    split at h
    ·rename_i T' xs hs K
     obtain ⟨zs, hs', h, he⟩ := o4 (t := et) hc ha M h
     split at h
     ·rename_i ys U
      obtain ⟨rfl, rfl⟩ := dW U
      rw [bR] at h
      obtain ⟨O, h⟩ := h
      simp only [yb, yq] at O
      obtain ⟨h, Z⟩ := qP h
      rw [real_guard, bR] at h
      have hd : H.down.row = .own T.size (xs.map (cT (eY T) T)) (aV hs) := by rw [show H.down.row = H.row.down from rfl, K]; rfl
      refine ⟨_, h.2, V (o := (aZ.mk (.msw b (g + 1)) (b :: J) [(b, ⟨g + 1, false, .os T (xs ++ zs) (hs ++ hs')⟩)] []).down) rfl ?_⟩
      simp only [KV.down, Y, ye, hd, rY, ye1, he]
      rw [eB]
      refine ⟨?_, ?_⟩
      ·simp only [yb, yq, show H.down.frz = H.frz from rfl]
       refine ⟨⟨⟨O.1, nb.2 hn.symm⟩, Z⟩, ?_⟩
       have h1 := h.1
       simp only [yi1] at h1
       simp only [yi1, ye1]
       exact h1
      ·simp only [aZ.down, yx1, yq3, dD.down, KRow.down, yk3, kO]; rfl
     ·cases h
    ·cases h
   ·rename_i b g o n
    rw [real_guard, bR] at h
    obtain ⟨ho, h⟩ := h
    obtain rfl := nb.1 ho
    obtain ⟨H, Y, h⟩ := eW h
    split at h
    ·rename_i T' xs hs K
     obtain ⟨zs, hs', h, he⟩ := o4 (t := et) hc ha M h
     split at h
     ·rename_i ys U
      obtain ⟨rfl, rfl⟩ := dW U
      rw [bR] at h
      obtain ⟨O, h⟩ := h
      simp only [yb, yq] at O
      rw [real_guard, bR] at h
      obtain ⟨hnl, h⟩ := h
      obtain ⟨h, Z⟩ := qP h
      rw [real_guard, bR] at h
      have hd : H.down.row = .own T.size (xs.map (cT (eY T) T)) (aV hs) := by rw [show H.down.row = H.row.down from rfl, K]; rfl
      refine ⟨_, h.2, V (o := (aZ.mk (.msw b (g + 1)) (b :: J) [(b, ⟨g + 1, false, .os T (xs.take n ++ zs) (hs ++ hs')⟩)] []).down) rfl ?_⟩
      simp only [KV.down, Y, ye, hd, rY, he]
      rw [eB]
      refine ⟨?_, ?_⟩
      ·simp only [yb, yq, show H.down.frz = H.frz from rfl]
       refine ⟨⟨⟨⟨O.1, nb.2 hn.symm⟩, by rw [ye1]; exact hnl⟩, Z⟩, ?_⟩
       have h1 := h.1
       simp only [yi1, yb3] at h1
       simp only [yi1, ye1, yb3]
       exact h1
      ·simp only [aZ.down, yx1, yq3, dD.down, KRow.down, yk3, yz2, kO]; rfl
     ·cases h
    ·cases h
   ·cases h
  ·cases h
 ·cases h
theorem Dy (ht : bG P tab) {t : TypeId} {rs : Nat} {k : aZ → Option R} (h : Ii tab t rs k = some r) : ∃ out, k out = some r ∧ Gm P t rs = some out.down := by
 unfold Ii at h
 have K := fQ ht h
 clear h
 obtain ⟨et, te, J, I, h, hu⟩ := K
 have H := bU.of (ht _ _ I)
 split at h
 ·rename_i T hT
  rw [bR] at h
  obtain ⟨_, hn, _, _⟩ := H.ty T hT
  refine ⟨_, h.2, ?_⟩
  simp only [Gm, J, ye, H.n]
  rw [eB]
  refine ⟨by rw [← hn]; exact nl.2 Ty.size_pos, ?_⟩
  rw [← hn]; rfl
 ·cases h
theorem Lb (ht : bG P tab) {t : TypeId} {rs : Nat} {l c : KV} {ρ : Operand → Option AV} {Y Z : Operand} {k : aZ → Option R} (hl : ρ Y = some l.down) (O : ρ Z = some c.down) (h : K8 (aP R) tab rs t l c k = some r) :
  ∃ out, k out = some r ∧ GU P ρ (aB mem) rs t Y Z = some out.down := by
 unfold K8 at h
 have h0 := fQ ht h
 clear h
 obtain ⟨et, te, M, J, h, hu⟩ := h0
 have H := bU.of (ht _ _ J)
 split at h
 ·rename_i k1 n k2 n'
  split at h
  ·rename_i T hT
   rw [bR] at h
   obtain ⟨hg, h⟩ := h
   simp only [yb] at hg
   obtain ⟨⟨⟨⟨g1, g2⟩, g3⟩, g4⟩, N⟩ := hg
   have N := Ip.1 N
   obtain ⟨⟨ls, V, hc⟩, hn, I, _⟩ := H.ty T hT
   have ha := H.ag
   rw [N] at ha I
   split at h
   ·rename_i a h1
    obtain ⟨qs, hq, W⟩ := FU (In hc) h1
    split at h
    ·rename_i U
     obtain ⟨z, _, _, h, hz⟩ := kY W h
     rw [real_guard, bR] at h
     refine ⟨_, h.2, ?_⟩
     have K : (eN te).down.cells = KV.downs (te.zero.map .lit) := by rw [(zeroCells H).1, (zeroCells H).2.1]
     unfold GU
     simp only [M, ye, H.zero_eq.1, hl, O, V, KV.down]
     rw [eB]
     refine ⟨h.1, ?_⟩
     rw [K, hq]
     simp only [ye, ← hz, pA ha I, H.n, H.bytes]
     rw [eB]
     refine ⟨?_, ?_⟩
     ·simp only [yb]
      exact ⟨⟨⟨⟨g1, g2⟩, by rw [aG, ye1]; exact g3⟩, eU g4⟩, by rw [U]; rfl⟩
     ·simp only [aZ.down, yx1, yq3, dD.down, KRow.down, List.map_replicate, hn]; rfl
    ·cases h
   ·cases h
  ·cases h
 ·cases h
theorem vH : ∀ vs : List KV, (KV.downs vs).map AV.cells = (q8 vs).map KV.downs
 | [] => rfl
 | v :: vs => by simp only [KV.downs, yx1, q8, eH, vH vs]
theorem Iw (ht : bG P tab) {env : Nat → KV} {tmps : List AV} (he : fB env tmps) {rs : Nat} {t : TypeId} {len : Nat} {H : Array (Nat × Operand)} {k : aZ → Option R}
  (h : Ht (aP R) tab env rs t len H k = some r) : ∃ out, k out = some r ∧ A2 P (bY tmps) (aB mem) rs t len H = some out.down := by
 unfold Ht at h
 have U := fQ ht h
 clear h
 obtain ⟨et, te, M, K, h, hu⟩ := U
 have I := bU.of (ht _ _ K)
 have U := qI he h
 clear h
 obtain ⟨ps, W, h⟩ := U
 simp only at h
 split at h
 ·rename_i T hT
  rw [bR] at h
  obtain ⟨Z, h⟩ := h
  simp only [yb] at Z
  obtain ⟨⟨⟨⟨⟨⟨⟨g1, g2⟩, g3⟩, g4⟩, g5⟩, g6⟩, g7⟩, N⟩ := Z
  have N := Ip.1 N
  obtain ⟨⟨ls, V, Y⟩, hn, J, _⟩ := I.ty T hT
  have ha := I.ag
  rw [N] at ha J
  obtain ⟨xs, hs, h, O⟩ := o4 (t := et) Y ha J h
  refine ⟨_, h, ?_⟩
  unfold A2
  rw [M]; simp only [ye, I.zero_eq.1, I.n, W, V]
  rw [eB]
  constructor
  ·simp only [yb]
   refine ⟨⟨⟨⟨⟨⟨pS g1, g2⟩, g3⟩, g4⟩, ?_⟩, ?_⟩, g6⟩
   ·have : (eN te).down :: (j6 ps).map (·.2) = KV.downs (eN te :: ps.map (·.2)) := by simp [KV.downs, j6, cY]
    rw [this]; exact pY g5
   ·rw [d6 Y, hn]; exact nb.2 rfl
  ·rw [← Gc, ← vP, vH, O]
   simp only [ye]
   rw [eB]
   refine ⟨by rw [nZ]; exact eU g7, ?_⟩
   rw [← hn]; rfl
 ·cases h
theorem A4 {ρ : Operand → Option AV} {p : AV → Bool} {x : Operand} {v : AV} (h : ρ x = some v) : lE ρ p x = p v := by unfold lE; rw [h]
theorem NJ (ht : bG P tab) (hC : Eh C tbl) {own tk boxed raw vars : Bool} {o : Oper} {env : Nat → KV} {tmps : List AV} (U : fB env tmps) {rs : Nat} {k : aZ → Option R} (h : ON (aP R) tab tbl own tk boxed raw vars o env mem rs k = some r) :
  ∃ out, k out = some r ∧ FZ P C own tk boxed raw vars o (bY tmps) (aB mem) rs = some out.down := by
 have plain : bI own (bY tmps) (aB mem) o.op = false → JS (aP R) tab tbl boxed raw vars o env mem rs k = some r → ∃ out, k out = some r ∧ FZ P C own tk boxed raw vars o (bY tmps) (aB mem) rs = some out.down := by
  intro K h
  obtain ⟨out, h, I⟩ := LJ ht hC U h
  exact ⟨out, h, by unfold FZ; rw [K]; exact I⟩
 have M : ∀ {out : aZ}, bI own (bY tmps) (aB mem) o.op = true → F4 P own tk o (bY tmps) (aB mem) rs = some out.down → FZ P C own tk boxed raw vars o (bY tmps) (aB mem) rs = some out.down := by
  intro out K O
  unfold FZ; rw [K]; exact O
 unfold ON at h
 split at h
 ·rename_i x I
  cases hx : own && jM x with
  | true =>
   rw [hx] at h
   obtain ⟨out, h, hm⟩ := Dy ht h
   exact ⟨out, h, M (by rw [I]; exact hx) (by unfold F4; rw [I]; exact hm)⟩
  | false => rw [hx] at h; exact plain (by rw [I]; exact hx) h
 ·rename_i x I
  cases hx : own && jM x with
  | true =>
   rw [hx] at h
   obtain ⟨out, h, hm⟩ := Dy ht h
   exact ⟨out, h, M (by rw [I]; exact hx) (by unfold F4; rw [I]; exact hm)⟩
  | false => rw [hx] at h; exact plain (by rw [I]; exact hx) h
 ·rename_i t len parts I
  cases own with
  | true =>
   obtain ⟨out, h, hm⟩ := Iw ht U h
   exact ⟨out, h, M (by rw [I]; rfl) (by unfold F4; rw [I]; exact hm)⟩
  | false => exact plain (by rw [I]; rfl) h
 ·rename_i t l c I
  cases own with
  | true =>
   simp only [yl] at h
   obtain ⟨l', hl, h, _⟩ := aO U h
   obtain ⟨c', hc, h, _⟩ := aO U h
   obtain ⟨out, h, hm⟩ := Lb (mem := mem) ht hl hc h
   exact ⟨out, h, M (by rw [I]; rfl) (by unfold F4; rw [I]; exact hm)⟩
  | false => exact plain (by rw [I]; rfl) h
 ·rename_i t a I
  obtain ⟨v, Y, h, _⟩ := aO U h
  have K : bI own (bY tmps) (aB mem) o.op = Ey mem v := by rw [I]; show lE _ _ _ = _; rw [A4 Y, GC]
  cases O : Ey mem v with
  | true =>
   rw [O] at h K
   obtain ⟨out, h, hm⟩ := K1 ht h
   exact ⟨out, h, M K (by unfold F4; rw [I]; simp only [Y, ye]; exact hm)⟩
  | false => rw [O] at h K; exact plain K h
 ·rename_i t a x I
  obtain ⟨v, Y, h, _⟩ := aO U h
  have K : bI own (bY tmps) (aB mem) o.op = Ey mem v := by rw [I]; show lE _ _ _ = _; rw [A4 Y, GC]
  cases O : Ey mem v with
  | true =>
   rw [O] at h K
   simp only [yl] at h
   obtain ⟨x', hx, h, _⟩ := aO U h
   obtain ⟨out, h, hm⟩ := JX ht h
   exact ⟨out, h, M K (by unfold F4; rw [I]; simp only [Y, hx, ye]; exact hm)⟩
  | false => rw [O] at h K; exact plain K h
 ·rename_i t x lo hi' mx I
  obtain ⟨v, Y, h, _⟩ := aO U h
  have K : bI own (bY tmps) (aB mem) o.op = x9 mem v := by rw [I]; show lE _ _ _ = _; rw [A4 Y, Bt]
  cases O : x9 mem v with
  | true =>
   rw [O] at h K
   simp only [yl] at h
   obtain ⟨lo, hlo, h⟩ := oN U h
   obtain ⟨hi2, hhi, h⟩ := oN U h
   obtain ⟨mx, hmx, h⟩ := oN U h
   obtain ⟨out, h, hm⟩ := IW ht h
   exact ⟨out, h, M K (by unfold F4; rw [I]; simp only [Y, hlo, hhi, hmx, ye]; exact hm)⟩
  | false => rw [O] at h K; exact plain K h
 ·rename_i t x ix I
  obtain ⟨v, Y, h, _⟩ := aO U h
  have K : bI own (bY tmps) (aB mem) o.op = x9 mem v := by rw [I]; show lE _ _ _ = _; rw [A4 Y, Bt]
  cases O : x9 mem v with
  | true =>
   rw [O] at h K
   simp only [yl] at h
   obtain ⟨iv, hiv, h, _⟩ := aO U h
   split at h
   ·rename_i kd i
    obtain ⟨out, h, hm⟩ := JE ht h
    exact ⟨out, h, M K (by unfold F4; rw [I]; simp only [Y, hiv, ye]; exact hm)⟩
   ·cases h
  | false => rw [O] at h K; exact plain K h
 ·rename_i c I
  split at h
  ·rename_i N
   obtain ⟨args, H, h, _⟩ := j8 U h
   split at h
   ·rename_i t x W _hgn
    have K : bI own (bY tmps) (aB mem) o.op = LI mem x := by
     rw [I]
     show (match c.callee, c.args.toList with
      | .builtin .len, [x] => lE (bY tmps) (HQ (aB mem)) x
      | .builtin .append, [x, _] => own || lE (bY tmps) (y0 (aB mem)) x
      | _, _ => false) = _
     rw [N]
     cases hl : c.args.toList with
     | nil => rw [hl] at H; cases H
     | cons a as =>
      rw [hl] at H
      simp only [m6, C7, KV.downs] at H
      obtain ⟨w, hw, H⟩ := H
      rw [yc] at H
      obtain ⟨ws, J, e⟩ := H
      obtain ⟨rfl, rfl⟩ := yx e
      cases as with
      | cons b bs =>
       simp only [m6, C7] at J
       obtain ⟨_, _, J⟩ := J
       rw [yc] at J
       obtain ⟨_, _, e⟩ := J
       cases e
      | nil => simp only; rw [A4 hw, Mk]
    cases O : LI mem x with
    | true =>
     rw [O] at h K
     obtain ⟨out, h, hm⟩ := Md ht h
     refine ⟨out, h, M K ?_⟩
     unfold F4; rw [I]; simp only [H, ye, N, KV.downs, W, k9]; exact hm
    | false => rw [O] at h K; exact plain K h
   ·rename_i args _ _ hno _hgn
    have Z := h
    obtain ⟨out, h, hop'⟩ := LJ ht hC U h
    exfalso
    -- the operation answers nothing at other numbers of arguments
    unfold JS at Z
    rw [I] at Z
    simp only [N] at Z
    obtain ⟨args2, V, Z, _⟩ := j8 U Z
    unfold AI at Z
    simp only at Z
    split at Z
    ·rename_i t x W _
     rw [H] at V
     have : ∃ y, args = [y] := by
      have e := ya V
      cases args with
      | nil => cases e
      | cons y ys => cases ys with
       | nil => exact ⟨y, rfl⟩
       | cons z zs => simp [KV.downs] at e
     obtain ⟨y, rfl⟩ := this
     exact hno _ _ W rfl
    ·cases Z
  ·rename_i N
   obtain ⟨args, H, h, _⟩ := j8 U h
   split at h
   ·rename_i t tx x y W _hgn
    have K : bI own (bY tmps) (aB mem) o.op = (own || x9 mem x) := by
     rw [I]
     show (match c.callee, c.args.toList with
      | .builtin .len, [x] => lE (bY tmps) (HQ (aB mem)) x
      | .builtin .append, [x, _] => own || lE (bY tmps) (y0 (aB mem)) x
      | _, _ => false) = _
     rw [N]
     cases hl : c.args.toList with
     | nil => rw [hl] at H; cases H
     | cons a as =>
      rw [hl] at H
      simp only [m6, C7, KV.downs] at H
      obtain ⟨w, hw, H⟩ := H
      rw [yc] at H
      obtain ⟨ws, J, e⟩ := H
      obtain ⟨rfl, rfl⟩ := yx e
      cases as with
      | nil => cases J
      | cons b bs => cases bs with
       | nil => simp only; rw [A4 hw, Bt]
       | cons b' bs =>
        simp only [m6, C7] at J
        obtain ⟨_, _, J⟩ := J
        rw [yc] at J
        obtain ⟨_, J, e⟩ := J
        rw [C7] at J
        obtain ⟨_, _, J⟩ := J
        rw [yc] at J
        obtain ⟨_, _, e2⟩ := J
        subst e2
        cases e
    cases O : own || x9 mem x with
    | true =>
     rw [O] at h K
     obtain ⟨out, h, hm⟩ := H8 ht h
     refine ⟨out, h, M K ?_⟩
     unfold F4; rw [I]; simp only [H, ye, N, KV.downs, W, k9]; exact hm
    | false => rw [O] at h K; exact plain K h
   ·cases h
  ·rename_i h1 Z
   refine plain ?_ h
   rw [I]
   show (match c.callee, c.args.toList with
    | .builtin .len, [x] => lE (bY tmps) (HQ (aB mem)) x
    | .builtin .append, [x, _] => own || lE (bY tmps) (y0 (aB mem)) x
    | _, _ => false) = _
   split
   ·rename_i e _; exact (h1 e).elim
   ·rename_i e _; exact (Z e).elim
   ·rfl
 ·rename_i g1 g2 g3 g4 g5 g6 g7 g8 g9
  refine plain ?_ h
  unfold bI
  split <;> first
   | rfl
   | (rename_i e; exact (g1 _ e).elim)
   | (rename_i e; exact (g2 _ e).elim)
   | (rename_i e; exact (g3 _ _ _ e).elim)
   | (rename_i e; exact (g4 _ _ _ e).elim)
   | (rename_i e; exact (g5 _ _ e).elim)
   | (rename_i e; exact (g6 _ _ _ e).elim)
   | (rename_i e; exact (g7 _ _ _ _ _ e).elim)
   | (rename_i e; exact (g8 _ _ _ e).elim)
   | (rename_i e; exact (g9 _ e).elim)
end
end Go.Ab
