/- Plain laws. -/
import Derived.Test.YtdlbbdbbpoggfaaGreatDoorLaw1
import Derived.Test.YtdlbbdbbpoggfaaGreatDoorLib31
set_option linter.unusedVariables false
set_option linter.unusedSimpArgs false
section
namespace Sx
open Go Go.Ab
theorem KN {m : aW} {f : iT} {sh : List dA} {pc : Nat} {x : dA} {i : B6} (hx : sh[pc]? = some x) (z : f.2.2.2.2[pc]? = some i) (h8 : x.2.length ≤ 8)
  (h : x.1 = true → (eO m f i (pc : Int) x.2).2.2 = 0 ∧ ∀ t ∈ (eO m f i (pc : Int) x.2).2.1, dN sh (eO m f i (pc : Int) x.2).1 t = true) : kY m f sh pc = true := by
 unfold kY
 rw [hx, z]
 show BF m f sh i (pc : Int) x = true
 unfold BF
 rw [decide_eq_false (by omega), yw2, yu]
 cases h1 : x.1 with
 | false => rfl
 | true =>
  rw [yw, yl3, yc, yx, beq_iff_eq]
  exact h h1
theorem OD (m : aW) {z : Nat} {f : iT} {L : Nat} {mp : List dA} (hc : cA m = 0) (hf : m.funcs[z]? = some f) (Z : L = f.2.2.2.2.length) (U : L ≤ 64) (hI : rJ L mp) (J : Bool) (A : List (List dA)) (pc : Nat) (hp : pc < L) :
  (∃ N : Bool × List dA, qdm_B4 10000 (z : Int) J (pc : Int) m.recs m.funcs m.imps m.ints m.texts A mp = some (Sum.inl (((z : Int), (N.1, ((pc + 1 : Nat) : Int))), (aJ m, (A, N.2)))) ∧ rJ L N.2 ∧ qE J mp N.1 N.2 ∧
   (N.2 = mp → kY m f mp pc = true)) ∨
  ∃ h, qdm_B4 10000 (z : Int) J (pc : Int) m.recs m.funcs m.imps m.ints m.texts A mp = some (Sum.inr (Sum.inl (([], false), (aJ m, (A, h))))) := by
 have hpl : pc < mp.length := by rw [hI.len]; exact hp
 obtain ⟨x, hx⟩ : ∃ x, mp[pc]? = some x := ⟨_, yd hpl⟩
 obtain ⟨i, hi⟩ : ∃ i, f.2.2.2.2[pc]? = some i := ⟨_, yd (by omega)⟩
 have M := hI.all x (yj hx)
 unfold qdm_B4
 rw [aC, decide_eq_true (by omega), yg, decide_eq_true (by omega), yd2, yg, yb1, hx, ya]
 cases Y : x.1 with
 | false =>
  refine .inl ⟨(J, mp), ?_, hI, qE.refl _ _, fun _ => KN hx hi M.2 fun e => by rw [Y] at e; cases e⟩
  rw [yw2, yg, cN (by omega) (by omega)]
  rfl
 | true =>
  obtain ⟨_, hr, _, q1, q2, q3⟩ := Ad m z pc f i x.2 hc hf hi (by omega)
  obtain ⟨w1, w2⟩ := NA hc hf hi (by omega) M.1
  rw [yw, ye, yg, ya, hr, ya]
  by_cases V : (eO m f i (pc : Int) x.2).2.2 = 0
  ·have K : ((eO m f i (pc : Int) x.2).2.2 != 0) = false := by rw [V]; rfl
   rw [K, ye]
   obtain ⟨y, hy, W⟩ := OW m hI (z : Int) (pc : Int) J A _ _ w1 w2 (by rw [Z]; exact q3) U (by omega)
   show (∃ N : Bool × List dA, ((qdm_W6 10000 (((z : Int), (J, ((pc : Int), ((eO m f i (pc : Int) x.2).1, ((eO m f i (pc : Int) x.2).2.1, 0))))), (aJ m, (A, mp)))).bind fun H => _) = _ ∧ _) ∨ ∃ h, ((qdm_W6 10000 (((z : Int), (J, ((pc : Int), ((eO m f i (pc : Int) x.2).1, ((eO m f i (pc : Int) x.2).2.1, 0))))), (aJ m, (A, mp)))).bind fun H => _) = _
   rw [hy, ya]
   rcases W with ⟨h, rfl⟩ | ⟨O, h, rfl, j1, j2, j3⟩
   ·exact .inr ⟨h, rfl⟩
   ·refine .inl ⟨(O, h), ?_, j1, j2, fun e => KN hx hi M.2 fun _ => ⟨V, ?_⟩⟩
    ·show some (Sum.inl (((z : Int), (O, aI .i64 (pc : Int) 1)), (aJ m, (A, h)))) = _
     rw [cN (by omega) (by omega)]
     rfl
    ·have e' : h = mp := e
     rw [e'] at j3
     exact j3
  ·have K : ((eO m f i (pc : Int) x.2).2.2 != 0) = true := by simpa using V
   rw [K, yg]
   exact .inr ⟨mp, rfl⟩
theorem N5 (m : aW) {J : Nat} {f : iT} {L : Nat} {mp : List dA} (hc : cA m = 0) (hf : m.funcs[J]? = some f) (hLc : L = f.2.2.2.2.length) (K : L ≤ 64) (hI : rJ L mp) (H : List (List dA)) :
  ∃ y, qdm_W4 10000 (((J : Int), (false, 0)), (aJ m, (H, mp))) = some y ∧ ((∃ z, y = Sum.inl (([], false), (aJ m, (H, z)))) ∨
   ∃ A z, y = Sum.inr (((J : Int), A), (aJ m, (H, z))) ∧ rJ L z ∧ qE false mp A z ∧ (A = false → ∀ pc, pc < L → kY m f z pc = true)) := by
 have keep : ∀ {a : Bool} {l : List dA}, qE false mp a l → a = false → l = mp := fun h e => by
  rcases h.or with ⟨_, h⟩ | ⟨h, _⟩
  ·exact h
  ·rw [e] at h; cases h
 refine dW (xs := List.range L) (mk := fun i (a : Bool × List dA) => (((J : Int), (a.1, (i : Int))), (aJ m, (H, a.2)))) (I := fun i a => rJ L a.2 ∧ qE false mp a.1 a.2 ∧ (a.1 = false → ∀ pc, pc < i → kY m f mp pc = true)) ?_ ?_ L 0 10000 (false, mp) (by rw [yj2]; omega) ⟨hI, qE.refl _ _, fun _ k hk => by omega⟩ (by omega)
 ·rintro i ⟨c, l⟩ t hit ⟨O, M, V⟩
  have Y : i < L := by have := (yh.1 hit).1; rwa [yj2] at this
  rcases OD m hc hf hLc K O c H i Y with ⟨a', h1, h2, h3, h4⟩ | ⟨z, h⟩
  ·refine .inl ⟨a', h1, h2, M.trans h3, fun e pc N => ?_⟩
   have W : c = false ∧ a'.2 = l := by
    rcases h3.or with ⟨h, h'⟩ | ⟨h, _⟩
    ·exact ⟨h.symm.trans e, h'⟩
    ·rw [e] at h; cases h
   have el := keep M W.1
   by_cases U : pc = i
   ·subst U
    have := h4 W.2
    have Z : l = mp := el
    rwa [show (c, l).2 = l from rfl, Z] at this
   ·exact V W.1 pc (by omega)
  ·exact .inr ⟨_, h, .inl ⟨z, rfl⟩⟩
 ·rintro ⟨c, l⟩ ⟨O, M, V⟩
  refine ⟨Sum.inr (((J : Int), c), (aJ m, (H, l))), ?_, .inr ⟨c, l, rfl, O, M, fun e pc N => ?_⟩⟩
  ·rw [yj2]
   show qdm_B4 10000 (J : Int) c (L : Int) m.recs m.funcs m.imps m.ints m.texts H l = _
   unfold qdm_B4
   rw [aC, decide_eq_false (by have := O.len; simp only at this; omega), ye]
  ·have el : l = mp := keep M e
   rw [el]
   exact V e pc (by rw [yj2]; exact N)
theorem OJ (m : aW) {N : Nat} {f : iT} {L : Nat} {mp : List dA} (hc : cA m = 0) (hf : m.funcs[N]? = some f) (Y : L = f.2.2.2.2.length) (O : L ≤ 64) (hI : rJ L mp) (M : List (List dA)) :
  ∃ y, qdm_W2 10000 (((N : Int), true), (aJ m, (M, mp))) = some y ∧ ((∃ z, y = Sum.inl (([], false), (aJ m, (M, z)))) ∨
   ∃ z, y = Sum.inr ((N : Int), (aJ m, (M, z))) ∧ rJ L z ∧ ∀ pc, pc < L → kY m f z pc = true) := by
 refine E4 (I := fun s => ∃ (c : Bool) (l : List dA), s = (((N : Int), c), (aJ m, (M, l))) ∧ rJ L l ∧ (c = false → ∀ pc, pc < L → kY m f l pc = true)) (m := fun s => if s.1.2 = true then 1 + (25 * L - mu s.2.2.2) else 0) ?_ 10000 _ ⟨true, mp, rfl, hI, fun e => by cases e⟩ ?_
 ·rintro s ⟨c, l, rfl, i1, i2⟩
  cases c with
  | false => exact .inr ⟨_, rfl, .inr ⟨l, rfl, i1, i2 rfl⟩⟩
  | true =>
   obtain ⟨y, hy, U⟩ := N5 m hc hf Y O i1 M
   have V : qdm_B2 10000 (N : Int) true m.recs m.funcs m.imps m.ints m.texts M l = ((qdm_W4 10000 (((N : Int), (false, 0)), (aJ m, (M, l)))).bind fun K => Sum.rec (fun H => some (Sum.inr (Sum.inl ((H.1.1, H.1.2), (H.2.1, (H.2.2.1, H.2.2.2)))))) (fun A => some (Sum.inl ((A.1.1, A.1.2), (A.2.1, (A.2.2.1, A.2.2.2))))) K) := rfl
   rw [hy] at V
   rcases U with ⟨z, rfl⟩ | ⟨J, z, rfl, Z, j2, j3⟩
   ·exact .inr ⟨_, V, .inl ⟨z, rfl⟩⟩
   ·refine .inl ⟨_, V, ⟨J, z, rfl, Z, j3⟩, ?_⟩
    have W := O7 z Z.all
    rw [Z.len] at W
    rcases j2.or with ⟨h, _⟩ | ⟨h, h'⟩
    ·show (if J = true then 1 + (25 * L - mu z) else 0) < 1 + (25 * L - mu l)
     rw [h, if_neg (by decide)]; omega
    ·show (if J = true then 1 + (25 * L - mu z) else 0) < 1 + (25 * L - mu l)
     rw [if_pos h]; omega
 ·show (if true = true then 1 + (25 * L - mu mp) else 0) < 10000
  rw [if_pos rfl]; omega
def yY (m : aW) (f : iT) (sh : List dA) : Prop := rJ f.2.2.2.2.length sh ∧ ∀ pc, pc < f.2.2.2.2.length → kY m f sh pc = true
theorem JD {m : aW} {f : iT} {sh : List dA} (h : yY m f sh) : nT m f sh = true := by
 unfold nT
 rw [yc, yc, decide_eq_true_eq, yx]
 refine ⟨⟨h.1.len, ?_⟩, fun k z => h.2 k (by rw [← h.1.len]; exact List.mem_range.1 z)⟩
 have := h.1.fst
 match sh, this with
 | [], h => cases h
 | x :: r, h =>
  obtain rfl : x = (true, []) := by simpa using h
  rfl
theorem Jr {L : Nat} (hL : 1 ≤ L) : rJ L ((List.replicate L ((false, []) : dA)).set 0 (true, [])) := ⟨by simp, by rw [yf1 (by simp; omega)], fun x hx => by
 rcases ym2 hx with h | rfl
 ·rw [List.eq_of_mem_replicate h]; exact ⟨HZ, by simp⟩
 ·exact ⟨HZ, by simp⟩⟩
theorem KC (m : aW) (hm : lT m = true) : ∃ H ok, qdm 10000 m.recs m.funcs m.imps m.ints m.texts = some (H, ok) ∧
  ((ok = false ∧ H = []) ∨ (ok = true ∧ H.length = m.funcs.length ∧ ∀ (k : Nat) (f : iT), m.funcs[k]? = some f → ∃ sh, H[k]? = some sh ∧ yY m f sh)) := by
 have hc := jM hm
 have hfit := (cJ hc).1
 have hfs := hfit
 simp only [cM, yc, decide_eq_true_eq, yx] at hfs
 obtain ⟨_, _, _, hf8, hff, _⟩ := hfs
 have Y : ∃ y, qdm_W0 10000 (0, (aJ m, ([] : List (List dA)))) = some y ∧ ((∃ (A : List (List dA)) (l : List dA), y = Sum.inl (([], false), (aJ m, (A, l)))) ∨
   ∃ A : List (List dA), y = Sum.inr (aJ m, A) ∧ A.length = m.funcs.length ∧ ∀ (k : Nat) (f : iT), m.funcs[k]? = some f → ∃ sh, A[k]? = some sh ∧ yY m f sh) := by
  refine dW (xs := m.funcs) (mk := fun i (a : List (List dA)) => ((i : Int), (aJ m, a))) (I := fun i a => a.length = i ∧ ∀ (k : Nat) (f : iT), k < i → m.funcs[k]? = some f → ∃ sh, a[k]? = some sh ∧ yY m f sh) ?_ ?_ m.funcs.length 0 10000 [] (by omega) ⟨rfl, fun k f hk => by omega⟩ (by omega)
  ·intro i a f O ⟨i1, i2⟩
   have hi : i < m.funcs.length := (yh.1 O).1
   have hfm := hff f (yj O)
   simp only [oQ, yc, decide_eq_true_eq] at hfm
   obtain ⟨_, _, _, hc1, hc64, _⟩ := hfm
   have hst := Jr hc1
   obtain ⟨y, hy, U⟩ := OJ m hc O rfl hc64 hst a
   have N : qdm_B0 10000 (i : Int) m.recs m.funcs m.imps m.ints m.texts a = ((qdm_W2 10000 (((i : Int), true), (aJ m, (a, (List.replicate f.2.2.2.2.length ((false, []) : dA)).set 0 (true, []))))).bind fun V =>
     Sum.rec (fun z => some (Sum.inr (Sum.inl ((z.1.1, z.1.2), (z.2.1, (z.2.2.1, z.2.2.2)))))) (fun h => bif Nat.ble (List.length (h.2.2.1 ++ [h.2.2.2])) 4294967296 then some (Sum.inl ((aI .i64 h.1 1), (h.2.1, h.2.2.1 ++ [h.2.2.2]))) else none) V) := by
    unfold qdm_B0
    rw [aC, decide_eq_true (by omega), yg, aE, O, ya, aC, yb1, beq_self_eq_true, decide_eq_true (by omega), yv2 (by omega), yd2, yd2, yg,
     decide_eq_true (by rw [yg3]; omega), yg, yk2, if_pos (by omega), ya]
   rcases U with ⟨J, rfl⟩ | ⟨J, rfl, j1, j2⟩
   ·exact .inr ⟨_, N.trans (by rw [hy]; rfl), .inl ⟨a, J, rfl⟩⟩
   ·refine .inl ⟨a ++ [J], ?_, by simp [i1], fun k g hk hg => ?_⟩
    ·refine N.trans ?_
     rw [hy, ya]
     show (bif Nat.ble (List.length (a ++ [J])) 4294967296 then some (Sum.inl ((aI .i64 (i : Int) 1), (aJ m, a ++ [J]))) else none) = _
     rw [yv2 (by simp; omega), yg, cN (by omega) (by omega)]
     rfl
    ·by_cases hki : k = i
     ·subst hki
      rw [O] at hg
      obtain rfl := yb hg
      exact ⟨J, by rw [← i1]; simp, j1, j2⟩
     ·obtain ⟨sh, h1, h2⟩ := i2 k g (by omega) hg
      exact ⟨sh, by rw [yq (yh.1 h1).1]; exact h1, h2⟩
  ·intro a ⟨i1, i2⟩
   refine ⟨Sum.inr (aJ m, a), ?_, .inr ⟨a, rfl, i1, fun k f hk => i2 k f (yh.1 hk).1 hk⟩⟩
   show qdm_B0 10000 (m.funcs.length : Int) m.recs m.funcs m.imps m.ints m.texts a = _
   unfold qdm_B0
   rw [aC, decide_eq_false (by omega), ye]
 obtain ⟨y, hy, U⟩ := Y
 have K : qdm 10000 m.recs m.funcs m.imps m.ints m.texts = (qdm_W0 10000 (0, (aJ m, ([] : List (List dA))))).bind fun Z => Sum.rec (fun M => some (M.1.1, M.1.2)) (fun W => some (W.2, true)) Z := rfl
 rw [hy] at K
 rcases U with ⟨A, l, rfl⟩ | ⟨A, rfl, h1, h2⟩
 ·exact ⟨_, _, K, .inl ⟨rfl, rfl⟩⟩
 ·exact ⟨_, _, K, .inr ⟨rfl, h1, h2⟩⟩
theorem Dq {m : aW} (hm : lT m = true) {z : List (List dA)} (hl : z.length = m.funcs.length) (h : ∀ (k : Nat) (f : iT), m.funcs[k]? = some f → ∃ sh, z[k]? = some sh ∧ yY m f sh) : e9 m z = true := by
 unfold e9
 rw [hm, yu, decide_eq_true hl, yu, yx]
 intro k H
 have A : k < m.funcs.length := by rw [← hl]; exact List.mem_range.1 H
 obtain ⟨sh, h1, h2⟩ := h k _ (yd A)
 rw [GN h1 (yd A)]
 exact JD h2
end Sx
end
section
namespace Sx
open Go Go.Ab
theorem MO (m : aW) (z : List (List dA)) (H : Nat) (sh : List dA) (j : Nat) (R : FR) (hl : R.1.length ≤ 5000) (ht : ∀ t ∈ R.2.1, 0 ≤ t ∧ t < (sh.length : Int)) (M : R.2.1.length ≤ 10) :
  qcc_W4 10000 ((z, ((H : Int), (sh, ((j : Int), (R.1, (R.2.1, 0)))))), aJ m) = some (if R.2.1.all (dN sh R.1) = true then Sum.inr ((z, ((H : Int), (sh, (j : Int)))), aJ m) else Sum.inl (false, aJ m)) := by
 have h := bA (xs := R.2.1) (B := fun s => qcc_B4 10000 s.1.1 s.1.2.1 s.1.2.2.1 s.1.2.2.2.1 s.1.2.2.2.2.1 s.1.2.2.2.2.2.1 s.1.2.2.2.2.2.2 s.2.1 s.2.2.1 s.2.2.2.1 s.2.2.2.2.1 s.2.2.2.2.2) (mk := fun (k : Nat) => ((z, ((H : Int), (sh, ((j : Int), (R.1, (R.2.1, (k : Int))))))), aJ m))
  (p := fun t => !dN sh R.1 t) (found := fun k t => Sum.inl (false, aJ m)) (e := Sum.inr ((z, ((H : Int), (sh, (j : Int)))), aJ m)) (fun k t hx => ?_) ?_ R.2.1.length 0 10000 (by omega) (by omega)
 ·rw [yl1] at h
  have A : R.2.1.all (dN sh R.1) = !R.2.1.any (fun t => !dN sh R.1 t) := by rw [yr2]
  rcases h with ⟨h1, _, _, _, _, h2⟩ | ⟨h1, h2⟩
  ·rw [A, h1]; exact h2
  ·rw [A, h1]; exact h2
 ·have hi := cO hx
  obtain ⟨x, J⟩ := lH (l := sh) (ht t (yj hx)).1 (ht t (yj hx)).2
  show qcc_B4 10000 z (H : Int) sh (j : Int) R.1 R.2.1 (k : Int) m.recs m.funcs m.imps m.ints m.texts = _
  have K : dN sh R.1 t = (x.1 && eB R.1 x.2) := by unfold dN; rw [J]
  rw [K]
  unfold qcc_B4
  rw [aC, decide_eq_true (by omega), yg, aE, hx, ya, J, ya, ya, J, ya, HC 10000 R.1 x.2 hl (by omega), ya, aH (by omega)]
  cases x.1 <;> cases eB R.1 x.2 <;> rfl
 ·show qcc_B4 10000 z (H : Int) sh (j : Int) R.1 R.2.1 (R.2.1.length : Int) m.recs m.funcs m.imps m.ints m.texts = _
  unfold qcc_B4
  rw [aC, decide_eq_false (by omega), ye]
theorem M5 (m : aW) (A : Nat) (f : iT) (sh : List dA) (z : List (List dA)) (W : cA m = 0) (hf : m.funcs[A]? = some f) (hl : sh.length = f.2.2.2.2.length) (hs : sh.length ≤ 200) :
  qcc_W2 10000 ((z, ((A : Int), (sh, 0))), aJ m) = some (if (List.range sh.length).all (kY m f sh) = true then Sum.inr ((z, (A : Int)), aJ m) else Sum.inl (false, aJ m)) := by
 have h := pM (B := fun s => qcc_B2 10000 s.1.1 s.1.2.1 s.1.2.2.1 s.1.2.2.2 s.2.1 s.2.2.1 s.2.2.2.1 s.2.2.2.2.1 s.2.2.2.2.2) (mk := fun (j : Nat) => ((z, ((A : Int), (sh, (j : Int)))), aJ m))
  (p := kY m f sh) (found := fun j => Sum.inl (false, aJ m)) (e := Sum.inr ((z, (A : Int)), aJ m)) sh.length (fun j O => ?_) ?_ 10000 (by omega)
 ·rcases h with ⟨h1, h2⟩ | ⟨h1, j, _, h2⟩
  ·rw [h1, if_pos rfl]; exact h2
  ·rw [h1, if_neg (by simp)]; exact h2
 ·show qcc_B2 10000 z (A : Int) sh (j : Int) m.recs m.funcs m.imps m.ints m.texts = _
  have hx : sh[j]? = some sh[j] := yd O
  have J : f.2.2.2.2[j]? = some (f.2.2.2.2[j]'(by omega)) := yd _
  generalize sh[j] = x at hx
  generalize f.2.2.2.2[j]'(by omega) = i at J
  have K : kY m f sh j = BF m f sh i (j : Int) x := by unfold kY; rw [hx, J]
  rw [K]
  unfold qcc_B2 BF
  rw [aC, decide_eq_true (by omega), yg, aE, hx, ya, aC]
  by_cases M : x.2.length > 8
  ·rw [decide_eq_true (by omega : (x.2.length : Int) > 8), decide_eq_true M]; rfl
  ·rw [decide_eq_false (by omega : ¬ (x.2.length : Int) > 8), decide_eq_false M]
   obtain ⟨_, V, _, U, N, ht⟩ := Ad m A j f i x.2 W hf J (by omega)
   simp only [ye, ya]
   rw [V]
   generalize eO m f i (j : Int) x.2 = R at U N ht ⊢
   cases hb : x.1 with
   | false =>
    rw [aH (by omega)]
    rfl
   | true =>
    simp only [yw, ye, ya, yw2, yu, yl3]
    have hW := MO m z A sh j R (by omega) (by rw [hl]; exact ht) (by omega)
    rw [show qcc_W4 10000 ((z, ((A : Int), (sh, ((j : Int), (R.1, (R.2.1, 0)))))), (m.recs, (m.funcs, (m.imps, (m.ints, m.texts))))) = _ from hW]
    by_cases H : R.2.2 = 0
    ·rw [show (R.2.2 != 0) = false from by rw [H]; rfl, show (R.2.2 == 0) = true from by rw [H]; rfl]
     simp only [ye, yu]
     cases R.2.1.all (dN sh R.1) with
     | false => rfl
     | true =>
      show some (Sum.inl ((z, ((A : Int), (sh, aI .i64 (j : Int) 1))), aJ m)) = _
      rw [aH (by omega)]; rfl
    ·rw [show (R.2.2 != 0) = true from bne_iff_ne.2 H, show (R.2.2 == 0) = false from beq_eq_false_iff_ne.2 H]; rfl
 ·show qcc_B2 10000 z (A : Int) sh (sh.length : Int) m.recs m.funcs m.imps m.ints m.texts = _
  unfold qcc_B2
  rw [aC, decide_eq_false (by omega), ye]
theorem H0 (m : aW) (U : Fe m) (hL : pE m) (z : List (List dA)) : qcc 10000 m.recs m.funcs m.imps m.ints m.texts z = some (e9 m z) := by
 unfold qcc e9
 rw [wI 10000 m U hL (by omega), ya]
 cases hM : lT m with
 | false => rfl
 | true =>
  have N := jM hM
  obtain ⟨k1, _, _, V, _⟩ := cZ (cJ N).1
  simp only [yw, ye, yu]
  rw [vF]
  by_cases hl : z.length = m.funcs.length
  ·rw [decide_eq_true hl]
   simp only [yw, ye, yu]
   have h := pM (B := fun s => qcc_B0 10000 s.1.1 s.1.2 s.2.1 s.2.2.1 s.2.2.2.1 s.2.2.2.2.1 s.2.2.2.2.2) (mk := fun (j : Nat) => ((z, (j : Int)), aJ m))
    (p := Qd m z) (found := fun j => Sum.inl (false, aJ m)) (e := Sum.inr (aJ m)) z.length (fun j O => ?_) ?_ 10000 (by omega)
   ·rcases h with ⟨h1, h2⟩ | ⟨h1, j, _, h2⟩
    ·rw [h1, show qcc_W0 10000 ((z, 0), _) = _ from h2]; rfl
    ·rw [h1, show qcc_W0 10000 ((z, 0), _) = _ from h2]; rfl
   ·show qcc_B0 10000 z (j : Int) m.recs m.funcs m.imps m.ints m.texts = _
    have K : z[j]? = some z[j] := yd O
    have H : m.funcs[j]? = some (m.funcs[j]'(by omega)) := yd _
    generalize z[j] = sh at K
    generalize m.funcs[j]'(by omega) = f at H
    unfold qcc_B0
    rw [GN K H, aC, decide_eq_true (by omega), yg, aE, K, ya, aE, H, ya, vF]
    show _ = (if nT m f sh = true then some (Sum.inl ((z, ((j + 1 : Nat) : Int)), aJ m)) else some (Sum.inr (Sum.inl (false, aJ m))))
    by_cases A : sh.length = f.2.2.2.2.length
    ·have hk := V f (yj H)
     rw [decide_eq_true A, yw, ye]
     match sh, A, K with
     | [], A, _ => exfalso; simp at A; omega
     | x :: sh, A, K =>
      rw [show aD (x :: sh) 0 = some x from rfl, ya, ya, aC]
      have hW := M5 m j f (x :: sh) z N H A (by omega)
      rw [show qcc_W2 10000 ((z, ((j : Int), (x :: sh, 0))), (m.recs, (m.funcs, (m.imps, (m.ints, m.texts))))) = _ from hW]
      have J : nT m f (x :: sh) = ((x.1 && !decide (x.2.length > 0)) && (List.range (x :: sh).length).all (kY m f (x :: sh))) := by
       unfold nT
       rw [decide_eq_true A, yu]
      rw [J]
      cases hb : x.1 with
      | false => rfl
      | true =>
       by_cases M : x.2.length > 0
       ·rw [decide_eq_true (by omega : (x.2.length : Int) > 0), decide_eq_true M]; rfl
       ·rw [decide_eq_false (by omega : ¬ (x.2.length : Int) > 0), decide_eq_false M]
        cases (List.range (x :: sh).length).all (kY m f (x :: sh)) with
        | false => rfl
        | true =>
         show some (Sum.inl ((z, aI .i64 (j : Int) 1), aJ m)) = _
         rw [aH (by omega)]; rfl
    ·have J : nT m f sh = false := by unfold nT; rw [decide_eq_false A]; rfl
     rw [J, decide_eq_false A]; rfl
   ·show qcc_B0 10000 z (z.length : Int) m.recs m.funcs m.imps m.ints m.texts = _
    unfold qcc_B0
    rw [aC, decide_eq_false (by omega), ye]
  ·rw [decide_eq_false hl]; rfl
end Sx
end
section
namespace Sx
open Go Go.Ab
theorem HS {S X A : Type} {B : S → Option (S ⊕ X)} {xs ys : List A} {mk : Nat → S} {t : A → A → Bool} {bad : A → A → X} {fin : X} (z : xs.length = ys.length) (ht : ∀ x y, t x y = true ↔ x = y)
  (M : ∀ i x y, xs[i]? = some x → ys[i]? = some y → B (mk i) = some (bif t x y then .inl (mk (i + 1)) else .inr (bad x y))) (O : B (mk xs.length) = some (.inr fin)) :
  ∀ (j i n : Nat), i + j = xs.length → j < n → xs.take i = ys.take i → (xs = ys ∧ aL B n (mk i) = some fin) ∨ (xs ≠ ys ∧ ∃ x y, aL B n (mk i) = some (bad x y))
 | _, _, 0, _, h, _ => by omega
 | 0, i, n + 1, U, _, H => by
  obtain rfl : i = xs.length := by omega
  refine .inl ⟨?_, bG O⟩
  rw [yi2] at H
  rw [H, z, yi2]
 | j + 1, i, n + 1, U, hn, H => by
  have h1 : i < xs.length := by omega
  have h2 : i < ys.length := by omega
  have hx : xs[i]? = some xs[i] := yd h1
  have N : ys[i]? = some ys[i] := yd h2
  have J := M i _ _ hx N
  cases K : t xs[i] ys[i] with
  | true =>
   rw [K] at J
   rw [bM J]
   refine HS z ht M O j (i + 1) n (by omega) (by omega) ?_
   rw [yb3, yb3, H, hx, N, (ht _ _).1 K]
  | false =>
   rw [K] at J
   refine .inr ⟨fun e => ?_, _, _, bG J⟩
   have : t xs[i] ys[i] = true := by
    rw [ht]
    subst e; rfl
   rw [K] at this; cases this
theorem gT {S X A : Type} {B : S → Option (S ⊕ X)} {xs ys : List A} {mk : Nat → S} {t : A → A → Bool} {bad : A → A → X} {fin : X} (h : xs.length = ys.length) (ht : ∀ x y, t x y = true ↔ x = y)
  (z : ∀ i x y, xs[i]? = some x → ys[i]? = some y → B (mk i) = some (bif t x y then .inl (mk (i + 1)) else .inr (bad x y))) (H : B (mk xs.length) = some (.inr fin)) {n : Nat} (hn : xs.length < n) :
  (xs = ys ∧ aL B n (mk 0) = some fin) ∨ (xs ≠ ys ∧ ∃ x y, aL B n (mk 0) = some (bad x y)) := HS h ht z H xs.length 0 n (by omega) hn rfl
theorem gU {A : Type} {xs : List A} {i : Nat} {x : A} (hb : xs.length < 4294967296) (h : xs[i]? = some x) : aI .i64 (i : Int) 1 = ((i + 1 : Nat) : Int) := aH (by have := aO h; omega)
theorem nM {A : Type} {xs : List A} {i : Nat} {x : A} (h : xs[i]? = some x) : decide ((i : Int) < aA xs) = true := by
 have := aO h; rw [aC]; simp; omega
theorem jZ {A : Type} {xs : List A} : decide (((xs.length : Nat) : Int) < aA xs) = false := by rw [aC]; simp
theorem nS {A : Type} {xs ys : List A} (h : (aA xs != aA ys) = true) : xs ≠ ys := by
 rintro rfl; simp at h
theorem n7 {A : Type} {xs ys : List A} (h : (aA xs != aA ys) = false) : xs.length = ys.length := by
 have : aA xs = aA ys := by simpa using h
 rw [aC, aC] at this; omega
theorem En {n : Nat} {a b : List Int} (h : a.length < n) (H : a.length < 4294967296) : qbl n a b = some (decide (a = b)) := by
 unfold qbl
 cases hl : (aA a != aA b) with
 | true => simp only [yg]; rw [decide_eq_false (nS hl)]
 | false =>
  simp only [ye]
  unfold qbl_W0
  rcases gT (B := fun s => qbl_B0 n s.1 s.2.1 s.2.2.1 s.2.2.2) (mk := fun i => (a, (b, (aA a, (i : Int))))) (t := fun x y => !(x != y)) (bad := fun _ _ => Sum.inl false) (fin := Sum.inr ()) (n7 hl) (fun x y => by simp)
   (fun i x y hx J => by simp only [qbl_B0, nM hx, yg, aE, hx, J, ya, gU H hx]; cases (x != y) <;> rfl)
   (by simp only [qbl_B0, jZ, ye]) h with ⟨A, z⟩ | ⟨A, x, y, z⟩
  ·erw [z]; rw [decide_eq_true A]; rfl
  ·erw [z]; rw [decide_eq_false A]; rfl
theorem Lx {n : Nat} {a b : List Int} (h : a.length < n) (H : a.length < 4294967296) : qdo n a b = some (decide (a = b)) := by
 unfold qdo
 cases hl : (aA a != aA b) with
 | true => simp only [yg]; rw [decide_eq_false (nS hl)]
 | false =>
  simp only [ye]
  unfold qdo_W0
  rcases gT (B := fun s => qdo_B0 n s.1 s.2.1 s.2.2.1 s.2.2.2) (mk := fun i => (a, (b, (aA a, (i : Int))))) (t := fun x y => !(x != y)) (bad := fun _ _ => Sum.inl false) (fin := Sum.inr ()) (n7 hl) (fun x y => by simp)
   (fun i x y hx J => by simp only [qdo_B0, nM hx, yg, aE, hx, J, ya, gU H hx]; cases (x != y) <;> rfl)
   (by simp only [qdo_B0, jZ, ye]) h with ⟨A, z⟩ | ⟨A, x, y, z⟩
  ·erw [z]; rw [decide_eq_true A]; rfl
  ·erw [z]; rw [decide_eq_false A]; rfl
theorem Al {n : Nat} {a b : List Int} (h : a.length < n) (H : a.length < 4294967296) : qch n a b = some (decide (a = b)) := by
 unfold qch
 cases hl : (aA a != aA b) with
 | true => simp only [yg]; rw [decide_eq_false (nS hl)]
 | false =>
  simp only [ye]
  unfold qch_W0
  rcases gT (B := fun s => qch_B0 n s.1 s.2.1 s.2.2) (mk := fun i => (a, (b, (i : Int)))) (t := fun x y => !(x != y)) (bad := fun _ _ => Sum.inl false) (fin := Sum.inr ()) (n7 hl) (fun x y => by simp)
   (fun i x y hx J => by simp only [qch_B0, nM hx, yg, aE, hx, J, ya, gU H hx]; cases (x != y) <;> rfl)
   (by simp only [qch_B0, jZ, ye]) h with ⟨A, z⟩ | ⟨A, x, y, z⟩
  ·erw [z]; rw [decide_eq_true A]; rfl
  ·erw [z]; rw [decide_eq_false A]; rfl
theorem Mb {n : Nat} {a b : List Int} (h : a.length < n) (H : a.length < 4294967296) : qcw n a b = some (decide (a = b)) := by
 unfold qcw
 cases hl : (aA a != aA b) with
 | true => simp only [yg]; rw [decide_eq_false (nS hl)]
 | false =>
  simp only [ye]
  unfold qcw_W0
  rcases gT (B := fun s => qcw_B0 n s.1 s.2.1 s.2.2) (mk := fun i => (a, (b, (i : Int)))) (t := fun x y => !(x != y)) (bad := fun _ _ => Sum.inl false) (fin := Sum.inr ()) (n7 hl) (fun x y => by simp)
   (fun i x y hx J => by simp only [qcw_B0, nM hx, yg, aE, hx, J, ya, gU H hx]; cases (x != y) <;> rfl)
   (by simp only [qcw_B0, jZ, ye]) h with ⟨A, z⟩ | ⟨A, x, y, z⟩
  ·erw [z]; rw [decide_eq_true A]; rfl
  ·erw [z]; rw [decide_eq_false A]; rfl
theorem OO {n : Nat} {a b : List (Int × Int × Bool)} (h : a.length < n) (H : a.length < 4294967296) : qbj n a b = some (decide (a = b)) := by
 unfold qbj
 cases hl : (aA a != aA b) with
 | true => simp only [yg]; rw [decide_eq_false (nS hl)]
 | false =>
  simp only [ye]
  unfold qbj_W0
  rcases gT (B := fun s => qbj_B0 n s.1 s.2.1 s.2.2.1 s.2.2.2) (mk := fun i => (a, (b, (aA a, (i : Int))))) (t := fun x y => (x.1 == y.1) && ((x.2.1 == y.2.1) && (x.2.2 == y.2.2))) (bad := fun _ _ => Sum.inl false) (fin := Sum.inr ()) (n7 hl) (fun x y => by simp [Prod.ext_iff])
   (fun i x y hx J => by simp only [qbj_B0, nM hx, yg, aE, hx, J, ya, gU H hx]; cases ((x.1 == y.1) && ((x.2.1 == y.2.1) && (x.2.2 == y.2.2))) <;> rfl)
   (by simp only [qbj_B0, jZ, ye]) h with ⟨A, z⟩ | ⟨A, x, y, z⟩
  ·erw [z]; rw [decide_eq_true A]; rfl
  ·erw [z]; rw [decide_eq_false A]; rfl
theorem NB {n : Nat} {a b : List (Int × Int × Bool)} (h : a.length < n) (H : a.length < 4294967296) : qcy n a b = some (decide (a = b)) := by
 unfold qcy
 cases hl : (aA a != aA b) with
 | true => simp only [yg]; rw [decide_eq_false (nS hl)]
 | false =>
  simp only [ye]
  unfold qcy_W0
  rcases gT (B := fun s => qcy_B0 n s.1 s.2.1 s.2.2) (mk := fun i => (a, (b, (i : Int)))) (t := fun x y => (x.1 == y.1) && ((x.2.1 == y.2.1) && (x.2.2 == y.2.2))) (bad := fun _ _ => Sum.inl false) (fin := Sum.inr ()) (n7 hl) (fun x y => by simp [Prod.ext_iff])
   (fun i x y hx J => by simp only [qcy_B0, nM hx, yg, aE, hx, J, ya, gU H hx]; cases ((x.1 == y.1) && ((x.2.1 == y.2.1) && (x.2.2 == y.2.2))) <;> rfl)
   (by simp only [qcy_B0, jZ, ye]) h with ⟨A, z⟩ | ⟨A, x, y, z⟩
  ·erw [z]; rw [decide_eq_true A]; rfl
  ·erw [z]; rw [decide_eq_false A]; rfl
theorem Np {n : Nat} {x y : Int × Int × List Int × List Int} (h1 : x.2.2.1.length < n ∧ x.2.2.1.length < 4294967296) (h2 : x.2.2.2.length < n ∧ x.2.2.2.length < 4294967296) :
  qbn n x.1 x.2.1 x.2.2.1 x.2.2.2 y.1 y.2.1 y.2.2.1 y.2.2.2 = some (decide (x = y)) := by
 obtain ⟨A, h, N, Z⟩ := x
 obtain ⟨z, H, M, K⟩ := y
 simp only [qbn, En h1.1 h1.2, En h2.1 h2.2, ya, Prod.mk.injEq]
 have W : (A == z) = decide (A = z) := rfl
 have O : (h == H) = decide (h = H) := rfl
 rw [W, O]
 by_cases Y : A = z <;> by_cases U : h = H <;> by_cases J : N = M <;> by_cases V : Z = K <;> simp [Y, U, J, V]
theorem Py {n : Nat} {x y : Int × Int × List Int × List Int} (h1 : x.2.2.1.length < n ∧ x.2.2.1.length < 4294967296) (h2 : x.2.2.2.length < n ∧ x.2.2.2.length < 4294967296) :
  qcr n x.1 x.2.1 x.2.2.1 x.2.2.2 y.1 y.2.1 y.2.2.1 y.2.2.2 = some (decide (x = y)) := by
 obtain ⟨A, h, N, Z⟩ := x
 obtain ⟨z, H, M, K⟩ := y
 simp only [qcr, En h1.1 h1.2, Lx h2.1 h2.2, ya, Prod.mk.injEq]
 have W : (A == z) = decide (A = z) := rfl
 have O : (h == H) = decide (h = H) := rfl
 rw [W, O]
 by_cases Y : A = z <;> by_cases U : h = H <;> by_cases J : N = M <;> by_cases V : Z = K <;> simp [Y, U, J, V]
def L8 (n : Nat) (l : List (Int × Int × List Int × List Int)) : Prop := (l.length < n ∧ l.length < 4294967296) ∧ ∀ x ∈ l, (x.2.2.1.length < n ∧ x.2.2.1.length < 4294967296) ∧ x.2.2.2.length < n ∧ x.2.2.2.length < 4294967296
theorem LN {n : Nat} {a b : List (Int × Int × List Int × List Int)} (h : L8 n a) : qak n a b = some (decide (a = b)) := by
 have J := h.1.2
 unfold qak
 cases hl : (aA a != aA b) with
 | true => simp only [yg]; rw [decide_eq_false (nS hl)]
 | false =>
  simp only [ye]
  unfold qak_W0
  rcases gT (B := fun s => qak_B0 n s.1 s.2.1 s.2.2.1 s.2.2.2) (mk := fun i => (b, (a, (aA a, (i : Int))))) (t := fun x y => decide (x = y)) (bad := fun x y => Sum.inl (false, (x, y))) (fin := Sum.inr ()) (n7 hl) (fun x y => by simp)
   (fun i x y hx K => by
    have z := h.2 x (yj hx)
    simp only [qak_B0, nM hx, yg, aE, hx, K, ya, Np z.1 z.2, gU J hx]
    cases decide (x = y) <;> rfl)
   (by simp only [qak_B0, jZ, ye]) h.1.1 with ⟨H, A⟩ | ⟨H, x, y, A⟩
  ·erw [A]; rw [decide_eq_true H]; rfl
  ·erw [A]; rw [decide_eq_false H]; rfl
theorem NY {n : Nat} {a b : List (Int × Int × List Int × List Int)} (h : L8 n a) : qba n a b = some (decide (a = b)) := by
 have J := h.1.2
 unfold qba
 cases hl : (aA a != aA b) with
 | true => simp only [yg]; rw [decide_eq_false (nS hl)]
 | false =>
  simp only [ye]
  unfold qba_W0
  rcases gT (B := fun s => qba_B0 n s.1 s.2.1 s.2.2.1 s.2.2.2) (mk := fun i => (b, (a, (aA a, (i : Int))))) (t := fun x y => decide (x = y)) (bad := fun x y => Sum.inl (false, (x, y))) (fin := Sum.inr ()) (n7 hl) (fun x y => by simp)
   (fun i x y hx K => by
    have z := h.2 x (yj hx)
    simp only [qba_B0, nM hx, yg, aE, hx, K, ya, Py z.1 z.2, gU J hx]
    cases decide (x = y) <;> rfl)
   (by simp only [qba_B0, jZ, ye]) h.1.1 with ⟨H, A⟩ | ⟨H, x, y, A⟩
  ·erw [A]; rw [decide_eq_true H]; rfl
  ·erw [A]; rw [decide_eq_false H]; rfl
end Sx
end
section
set_option synthInstance.maxSize 2000
set_option synthInstance.maxHeartbeats 400000
namespace Sx
open Go Go.Ab
theorem Hn (a b : Int) : (a != b) = !decide (a = b) := rfl
theorem Ng {n : Nat} {a b : List (Int × Int × List Int × List Int)} (h : L8 n a) : qdf n a b = some (decide (a = b)) := by
 have U := h.1.2
 unfold qdf
 cases hl : (aA a != aA b) with
 | true => simp only [yg]; rw [decide_eq_false (nS hl)]
 | false =>
  simp only [ye]
  unfold qdf_W0
  rcases gT (B := fun s => qdf_B0 n s.1 s.2.1 s.2.2) (mk := fun i => (a, (b, (i : Int)))) (t := fun x y => decide (x = y)) (bad := fun x y => Sum.inl false) (fin := Sum.inr ()) (n7 hl) (fun x y => by simp)
   (fun i x y hx O => by
    have z := h.2 x (yj hx)
    simp only [qdf_B0, nM hx, yg, aE, hx, O, ya, Al z.1.1 z.1.2, Mb z.2.1 z.2.2, gU U hx, Hn]
    obtain ⟨Y, K, V, x4⟩ := x
    obtain ⟨W, y2, N, M⟩ := y
    by_cases e1 : Y = W <;> by_cases Z : K = y2 <;> by_cases J : V = N <;> by_cases e4 : x4 = M <;> simp [e1, Z, J, e4])
   (by simp only [qdf_B0, jZ, ye]) h.1.1 with ⟨H, A⟩ | ⟨H, x, y, A⟩
  ·erw [A]; rw [decide_eq_true H]; rfl
  ·erw [A]; rw [decide_eq_false H]; rfl
abbrev OV := List (Int × Int × List Int × List Int) × List (Int × Int × List Int × List Int) × List (Int × Int × Bool) × Int × Int × Int × Int
def Nc (n : Nat) (a : OV) : Prop := L8 n a.1 ∧ L8 n a.2.1 ∧ a.2.2.1.length < n ∧ a.2.2.1.length < 4294967296
theorem Oz {n : Nat} {a b : OV} (h : Nc n a) : qdh n a.1 a.2.1 a.2.2.1 a.2.2.2.1 a.2.2.2.2.1 a.2.2.2.2.2.1 a.2.2.2.2.2.2 b.1 b.2.1 b.2.2.1 b.2.2.2.1 b.2.2.2.2.1 b.2.2.2.2.2.1 b.2.2.2.2.2.2 = some (decide (a = b)) := by
 obtain ⟨h1, h2, A, z⟩ := h
 obtain ⟨a1, O, V, N, a5, a6, a7⟩ := a
 obtain ⟨b1, Y, b3, W, U, b6, b7⟩ := b
 simp only at h1 h2 A z
 have e (x y : Int) : (x == y) = decide (x = y) := rfl
 simp only [qdh, LN h1, NY h2, OO A z, ya, e, Prod.mk.injEq]
 by_cases e1 : a1 = b1 <;> by_cases Z : O = Y <;> by_cases H : V = b3 <;> by_cases e4 : N = W <;> by_cases J : a5 = U <;> by_cases M : a6 = b6 <;> by_cases K : a7 = b7 <;> simp [e1, Z, H, e4, J, M, K]
theorem GP {n : Nat} {a b : OV} (h : L8 n a.1) (A : a.1.length = b.1.length) :
  (a.1 = b.1 ∧ qbe_W0 n (0, (a, b)) = some (Sum.inr (a, b))) ∨ (a.1 ≠ b.1 ∧ ∃ r, qbe_W0 n (0, (a, b)) = some (Sum.inl r) ∧ r.1 = false) := by
 have V := h.1.2
 unfold qbe_W0
 rcases gT (B := fun s => qbe_B0 n s.1 s.2.1.1 s.2.1.2.1 s.2.1.2.2.1 s.2.1.2.2.2.1 s.2.1.2.2.2.2.1 s.2.1.2.2.2.2.2.1 s.2.1.2.2.2.2.2.2 s.2.2.1 s.2.2.2.1 s.2.2.2.2.1 s.2.2.2.2.2.1 s.2.2.2.2.2.2.1 s.2.2.2.2.2.2.2.1 s.2.2.2.2.2.2.2.2)
   (mk := fun i => ((i : Int), (a, b))) (t := fun x y => decide (x = y)) (bad := fun x y => Sum.inl (false, (a, (b, (x, y))))) (fin := Sum.inr (a, b)) (xs := a.1) (ys := b.1) A (fun x y => by simp)
   (fun i x y hx O => by
    have z := h.2 x (yj hx)
    simp only [qbe_B0, nM hx, yg, aE, hx, O, ya, Al z.1.1 z.1.2, Al z.2.1 z.2.2, gU V hx, Hn]
    obtain ⟨Z, M, W, x4⟩ := x
    obtain ⟨Y, y2, U, N⟩ := y
    by_cases e1 : Z = Y <;> by_cases e2 : M = y2 <;> by_cases K : W = U <;> by_cases e4 : x4 = N <;> simp [e1, e2, K, e4])
   (by simp only [qbe_B0, jZ, ye]) h.1.1 with ⟨J, H⟩ | ⟨J, x, y, H⟩
 ·exact .inl ⟨J, H⟩
 ·exact .inr ⟨J, _, H, rfl⟩
theorem Jn {n : Nat} {a b : OV} (h : Nc n a) : qbe n a.1 a.2.1 a.2.2.1 a.2.2.2.1 a.2.2.2.2.1 a.2.2.2.2.2.1 a.2.2.2.2.2.2 b.1 b.2.1 b.2.2.1 b.2.2.2.1 b.2.2.2.2.1 b.2.2.2.2.2.1 b.2.2.2.2.2.2 = some (decide (a = b)) := by
 obtain ⟨h1, h2, h3, Y⟩ := h
 unfold qbe
 cases hl : (aA a.1 != aA b.1) with
 | true =>
  simp only [yg]
  rw [decide_eq_false (fun e => nS hl (congrArg Prod.fst e))]
 | false =>
  simp only [ye, Hn]
  have z := GP (n := n) (a := a) (b := b) h1 (n7 hl)
  have key : ∀ q : Option ((Bool × OV × OV × (Int × Int × List Int × List Int) × Int × Int × List Int × List Int) ⊕ (OV × OV)), qbe_W0 n (0, (a, b)) = q → True := fun _ _ => trivial
  obtain ⟨a1, a2, a3, U, a5, a6, Z⟩ := a
  obtain ⟨b1, b2, b3, W, V, b6, b7⟩ := b
  simp only at h1 h2 h3 Y z ⊢
  rcases z with ⟨N, K⟩ | ⟨N, r, K, O⟩
  ·simp only [K, ya, Ng h2, NB h3 Y, Prod.mk.injEq]
   by_cases e2 : a2 = b2 <;> by_cases e3 : a3 = b3 <;> by_cases M : U = W <;> by_cases A : a5 = V <;> by_cases J : a6 = b6 <;> by_cases H : Z = b7 <;> simp [N, e2, e3, M, A, J, H]
  ·simp only [K, ya, O, Prod.mk.injEq]
   by_cases M : U = W <;> by_cases A : a5 = V <;> by_cases J : a6 = b6 <;> by_cases H : Z = b7 <;> simp [N, M, A, J, H]
end Sx
end
section
namespace Sx
open Go Go.Ab
abbrev Pc := Int × Int × List Int × List Int
abbrev kZ := OV
structure MS (s : kZ) : Prop where
 n1 : s.1.length ≤ 140737488351232
 n2 : s.2.1.length ≤ 140737488351232
 n3 : s.2.2.1.length ≤ 140737488351232
 f : ∀ x ∈ s.1, x.2.2.1.length ≤ 140737488351232 ∧ x.2.2.2.length ≤ 140737488351232
 o : ∀ x ∈ s.2.1, x.2.2.1.length ≤ 140737488351232 ∧ x.2.2.2.length ≤ 140737488351232
structure wK (s : kZ) : Prop where
 n : s.1.length + s.2.1.length + s.2.2.1.length ≤ 300
 f : ∀ x ∈ s.1, x.2.2.1.length ≤ 3000 ∧ x.2.2.2.length ≤ 3000
 o : ∀ x ∈ s.2.1, x.2.2.1.length ≤ 3000 ∧ x.2.2.2.length ≤ 3000
theorem OR (n : Nat) (s : kZ) (hl : MS s) (hn : 1000 ≤ n) : ∃ x, qci n s.1 s.2.1 s.2.2.1 s.2.2.2.1 s.2.2.2.2.1 s.2.2.2.2.2.1 s.2.2.2.2.2.2 = some x ∧ (x = true → wK s) := by
 unfold qci
 have n1 := hl.n1
 have n2 := hl.n2
 have n3 := hl.n3
 have M : aI .i64 (aI .i64 (aA s.2.1) (aA s.2.2.1)) (aA s.1) = ((s.1.length + s.2.1.length + s.2.2.1.length : Nat) : Int) := by
  simp only [aC]
  rw [dK (b := ((s.2.2.1.length : Nat) : Int)) (by omega) (by omega) (by omega), dK (b := ((s.1.length : Nat) : Int)) (by omega) (by omega) (by omega)]
  omega
 rw [M]
 by_cases h3 : s.1.length + s.2.1.length + s.2.2.1.length > 300
 ·rw [decide_eq_true (by omega), yg]
  exact ⟨false, rfl, fun h => by cases h⟩
 ·rw [decide_eq_false (by omega), ye]
  have H := oU (B := fun s => qci_B0 n s.1.1 s.1.2 s.2.1 s.2.2.1 s.2.2.2.1 s.2.2.2.2.1 s.2.2.2.2.2.1 s.2.2.2.2.2.2.1 s.2.2.2.2.2.2.2) (xs := s.2.1) (mk := fun i a => ((a, (i : Int)), s)) (f := fun x => x.2.2.1.length + x.2.2.2.length) (e := fun a => (a, s))
   (c := 281474976702464) (base := ((s.1.length + s.2.1.length + s.2.2.1.length : Nat) : Int)) (by omega) (fun x hx => by have := hl.o x hx; omega) (by omega) (fun i a x hx hm J A => by
    have K := aO hx
    have z := hl.o x hm
    show qci_B0 n a (i : Int) s.1 s.2.1 s.2.2.1 s.2.2.2.1 s.2.2.2.2.1 s.2.2.2.2.2.1 s.2.2.2.2.2.2 = _
    unfold qci_B0
    rw [aC, decide_eq_true (by omega), yg, aE, hx, ya, ya, aC, aC, dK (b := ((x.2.2.1.length : Nat) : Int)) (by omega) (by omega) (by omega), dK (b := ((x.2.2.2.length : Nat) : Int)) (by omega) (by omega) (by omega), aH (by omega)]
    rw [show a + ((x.2.2.1.length + x.2.2.2.length : Nat) : Int) = a + (x.2.2.1.length : Int) + (x.2.2.2.length : Int) by omega]) (fun a => by
    show qci_B0 n a (s.2.1.length : Int) s.1 s.2.1 s.2.2.1 s.2.2.2.1 s.2.2.2.2.1 s.2.2.2.2.2.1 s.2.2.2.2.2.2 = _
    unfold qci_B0
    rw [aC, decide_eq_false (by omega), ye]) (n := n) (by omega)
  obtain ⟨a, U, a1, a2, N⟩ := H
  have h1 := oU (B := fun s => qci_B2 n s.1.1 s.1.2 s.2.1 s.2.2.1 s.2.2.2.1 s.2.2.2.2.1 s.2.2.2.2.2.1 s.2.2.2.2.2.2.1 s.2.2.2.2.2.2.2) (xs := s.1) (mk := fun i a => ((a, (i : Int)), s)) (f := fun x => x.2.2.1.length + x.2.2.2.length) (e := fun a => (a, s))
   (c := 281474976702464) (base := a) (by omega) (fun x hx => by have := hl.f x hx; omega) (by omega) (fun i a x hx hm J A => by
    have K := aO hx
    have z := hl.f x hm
    show qci_B2 n a (i : Int) s.1 s.2.1 s.2.2.1 s.2.2.2.1 s.2.2.2.2.1 s.2.2.2.2.2.1 s.2.2.2.2.2.2 = _
    unfold qci_B2
    rw [aC, decide_eq_true (by omega), yg, aE, hx, ya, ya, aC, aC, dK (b := ((x.2.2.1.length : Nat) : Int)) (by omega) (by omega) (by omega), dK (b := ((x.2.2.2.length : Nat) : Int)) (by omega) (by omega) (by omega), aH (by omega)]
    rw [show a + ((x.2.2.1.length + x.2.2.2.length : Nat) : Int) = a + (x.2.2.1.length : Int) + (x.2.2.2.length : Int) by omega]) (fun a => by
    show qci_B2 n a (s.1.length : Int) s.1 s.2.1 s.2.2.1 s.2.2.2.1 s.2.2.2.2.1 s.2.2.2.2.2.1 s.2.2.2.2.2.2 = _
    unfold qci_B2
    rw [aC, decide_eq_false (by omega), ye]) (n := n) (by omega)
  obtain ⟨b, O, b1, b2, V⟩ := h1
  refine ⟨decide (b < 3000), ?_, fun h => ?_⟩
  ·refine (congrArg (fun q => Option.bind q _) U).trans ?_
   rw [ya]
   refine (congrArg (fun q => Option.bind q _) O).trans ?_
   rfl
  ·have A := of_decide_eq_true h
   exact ⟨by omega, fun x hx => by have := V x hx; omega, fun x hx => by have := N x hx; omega⟩
theorem wK.fine {s : kZ} (h : wK s) {n : Nat} (hn : 4000 ≤ n) : Nc n s := by
 have h1 := h.n
 exact ⟨⟨⟨by omega, by omega⟩, fun x hx => by have := h.f x hx; exact ⟨⟨by omega, by omega⟩, by omega, by omega⟩⟩, ⟨⟨by omega, by omega⟩, fun x hx => by have := h.o x hx; exact ⟨⟨by omega, by omega⟩, by omega, by omega⟩⟩, by omega, by omega⟩
end Sx
end
section
namespace Sx
open Go Go.Ab
abbrev PE := Int × Int × List Int × List Int
abbrev Re := List (List cQ) × List iT × List Mv × List Int × List ByteArray × List (List dA) × kZ
def lk (m : aW) (maps : List (List dA)) (s : kZ) : Re := (m.recs, m.funcs, m.imps, m.ints, m.texts, maps, s)
def Fb (s : kZ) (v : Int) (t : cQ) : Bool :=
 bif t.1 == 1 then true else bif t.1 == 8 then true else
 bif t.1 == 5 then (bif decide (v < (s.2.2.1.length : Int)) then (match aD s.2.2.1 v with | some h => h.1 == t.2 | none => false) else false) else
 bif v == 0 then true else bif t.1 == 6 then false else bif decide (v > (s.2.1.length : Int)) then false else
 (match aD s.2.1 (v - 1) with | some o => bif t.1 == 7 then true else (t.1 == o.1 && t.2 == o.2.1) | none => false)
def gO (s : kZ) (l : List Int) (ts : List cQ) : Bool := decide (l.length = ts.length) && (l.zip ts).all fun q => Fb s q.1 q.2
def Qi (v : Int) : Prop := 0 ≤ v ∧ v ≤ 18446744073709551615
def LH (l : List Int) : Prop := ∀ v ∈ l, Qi v
theorem sB {α : Type} (xs : List α) (h : xs.length ≤ 4294967296) : aY .u64 (aA xs) = ((xs.length : Nat) : Int) := by rw [aC]; exact cW (by omega) (by omega)
theorem MZ {v : Int} (h : Qi v) (h0 : v ≠ 0) : a8 .u64 v 1 = v - 1 := by
 obtain ⟨h1, h2⟩ := h
 unfold a8; rw [zH]; omega
theorem Om (n : Nat) (m : aW) (h : List (List dA)) (s : kZ) (v : Int) (t : cQ) (A : Qi v) (h1 : s.2.1.length ≤ 4294967296) (h2 : s.2.2.1.length ≤ 4294967296) :
  qah n v t.1 t.2 (lk m h s) = some (Fb s v t, lk m h s) := by
 unfold qah Fb lk
 simp only [sB _ h1, sB _ h2]
 cases t.1 == 1
 case true => rfl
 cases t.1 == 8
 case true => rfl
 simp only [ye]
 cases t.1 == 5 with
 | true =>
  simp only [yg]
  by_cases hl : v < (s.2.2.1.length : Int)
  ·obtain ⟨x, hx⟩ := lH A.1 hl
   rw [decide_eq_true hl, hx]; rfl
  ·rw [decide_eq_false hl]; rfl
 | false =>
  simp only [ye]
  by_cases z : v = 0
  ·rw [z]; rfl
  ·rw [beq_eq_false_iff_ne.2 z]
   simp only [ye]
   cases t.1 == 6
   case true => rfl
   simp only [ye]
   by_cases hl : v > (s.2.1.length : Int)
   ·rw [decide_eq_true hl]; rfl
   ·rw [decide_eq_false hl, MZ A z]
    have := A.1
    obtain ⟨x, hx⟩ := lH (l := s.2.1) (t := v - 1) (by omega) (by omega)
    rw [hx]
    simp only [ye, ya]
    cases t.1 == 7 <;> rfl
theorem Pv (n : Nat) (s : kZ) (v : Int) (t : cQ) (z : Qi v) (h1 : s.2.1.length ≤ 4294967296) (h2 : s.2.2.1.length ≤ 4294967296) :
  qds n s v t.1 t.2 = some (Fb s v t) := by
 unfold qds Fb
 simp only [sB _ h1, sB _ h2]
 cases t.1 == 1
 case true => rfl
 cases t.1 == 8
 case true => rfl
 simp only [ye]
 cases t.1 == 5 with
 | true =>
  simp only [yg]
  by_cases hl : v < (s.2.2.1.length : Int)
  ·obtain ⟨x, hx⟩ := lH z.1 hl
   rw [decide_eq_true hl, hx]; rfl
  ·rw [decide_eq_false hl]; rfl
 | false =>
  simp only [ye]
  by_cases h : v = 0
  ·rw [h]; rfl
  ·rw [beq_eq_false_iff_ne.2 h]
   simp only [ye]
   cases t.1 == 6
   case true => rfl
   simp only [ye]
   by_cases hl : v > (s.2.1.length : Int)
   ·rw [decide_eq_true hl]; rfl
   ·rw [decide_eq_false hl, MZ z h]
    have := z.1
    obtain ⟨x, hx⟩ := lH (l := s.2.1) (t := v - 1) (by omega) (by omega)
    rw [hx]
    simp only [ye, ya]
    cases t.1 == 7 with
    | true => rfl
    | false => cases t.1 == x.1 <;> rfl
structure iE (s : kZ) : Prop where
 sm : wK s
 fl : ∀ x ∈ s.1, LH x.2.2.1 ∧ LH x.2.2.2
 ob : ∀ x ∈ s.2.1, LH x.2.2.1
theorem iE.heap {s : kZ} (h : iE s) : s.2.1.length ≤ 300 := by have := h.sm.n; omega
theorem iE.hans {s : kZ} (h : iE s) : s.2.2.1.length ≤ 300 := by have := h.sm.n; omega
theorem iE.frames {s : kZ} (h : iE s) : s.1.length ≤ 300 := by have := h.sm.n; omega
theorem zD (n : Nat) (m : aW) (z : List (List dA)) (s : kZ) (l : List Int) (ts : List cQ) (H : iE s) (hl : LH l) (hn : 4000 ≤ n) (h3 : l.length ≤ 3000) :
  qz n l ts (lk m z s) = some (gO s l ts, lk m z s) := by
 have hh := H.heap
 have J := H.hans
 unfold qz qv gO
 rw [vF]
 by_cases A : l.length = ts.length
 ·rw [decide_eq_true A, yw, ye, yu]
  have h := loop_two (B := fun s => qv_B0 n s.1.1 s.1.2.1 s.1.2.2.1 s.1.2.2.2 s.2) (mk := fun (i : Nat) => ((ts, (l, (aA l, (i : Int)))), lk m z s)) (p := Fb s) (found := fun i x y => Sum.inl (false, (lk m z s, y))) (e := Sum.inr (lk m z s)) A (fun i x y hx K => ?_) ?_ n (by omega)
  ·rcases h with ⟨h1, h2⟩ | ⟨h1, i, x, y, h2⟩
   ·rw [show qv_W0 n ((ts, (l, (aA l, 0))), lk m z s) = _ from h2, h1]; rfl
   ·rw [show qv_W0 n ((ts, (l, (aA l, 0))), lk m z s) = _ from h2, h1]; rfl
  ·have hi := cO hx
   show qv_B0 n ts l (aA l) (i : Int) (lk m z s) = _
   unfold qv_B0
   rw [aC, decide_eq_true (by omega), yg, aE, hx, ya, aE, K, ya, Om n m z s x y (hl x (yj hx)) (by omega) (by omega), ya, aH (by omega)]
   cases Fb s x y <;> rfl
  ·show qv_B0 n ts l (aA l) (l.length : Int) (lk m z s) = _
   unfold qv_B0
   rw [aC, decide_eq_false (by omega), ye]
 ·rw [decide_eq_false A]; rfl
theorem JR (n : Nat) (s : kZ) (l : List Int) (ts : List cQ) (A : iE s) (hl : LH l) (hn : 4000 ≤ n) (h3 : l.length ≤ 3000) : qec n s l ts = some (gO s l ts) := by
 have hh := A.heap
 have H := A.hans
 unfold qec gO
 rw [vF]
 by_cases z : l.length = ts.length
 ·rw [decide_eq_true z, yw, ye, yu]
  have h := loop_two (B := fun s => qec_B0 n s.1.1 s.1.2.1 s.1.2.2 s.2) (mk := fun (i : Nat) => ((l, (ts, (i : Int))), s)) (p := Fb s) (found := fun i x y => Sum.inl (false, s)) (e := Sum.inr s) z (fun i x y hx J => ?_) ?_ n (by omega)
  ·rcases h with ⟨h1, h2⟩ | ⟨h1, i, x, y, h2⟩
   ·rw [show qec_W0 n ((l, (ts, 0)), s) = _ from h2, h1]; rfl
   ·rw [show qec_W0 n ((l, (ts, 0)), s) = _ from h2, h1]; rfl
  ·have hi := cO hx
   show qec_B0 n l ts (i : Int) s = _
   unfold qec_B0
   rw [aC, decide_eq_true (by omega), yg, aE, hx, ya, aE, J, ya, Pv n s x y (hl x (yj hx)) (by omega) (by omega), ya, aH (by omega)]
   cases Fb s x y <;> rfl
  ·show qec_B0 n l ts (l.length : Int) s = _
   unfold qec_B0
   rw [aC, decide_eq_false (by omega), ye]
 ·rw [decide_eq_false z]; rfl
def qG (m : aW) (s : kZ) (o : PE) : Bool :=
 bif o.1 == 2 then (o.2.1 == 0 && ((o.2.2.1.length : Int) == 0 && decide ((o.2.2.2.length : Int) ≤ 64))) else
 bif o.1 == 3 then (o.2.1 == 0 && ((o.2.2.2.length : Int) == 0 && decide ((o.2.2.1.length : Int) ≤ 64))) else
 (o.1 == 4 && (decide (o.2.1 ≥ 0) && (decide (o.2.1 < (m.recs.length : Int)) && ((o.2.2.2.length : Int) == 0 && (match aD m.recs o.2.1 with | some r => gO s o.2.2.1 r | none => false)))))
theorem Ou (n : Nat) (m : aW) (h : List (List dA)) (s : kZ) (o : PE) (K : iE s) (A : LH o.2.2.1) (H : o.2.2.1.length ≤ 3000) (hn : 4000 ≤ n) :
  qai n o.1 o.2.1 o.2.2.1 o.2.2.2 (lk m h s) = some (qG m s o, lk m h s) := by
 unfold qai qG
 simp only [aC]
 cases o.1 == 2 with
 | true =>
  simp only [yg]
  cases o.2.1 == 0
  case false => rfl
  cases (o.2.2.1.length : Int) == 0 <;> rfl
 | false =>
  simp only [ye]
  cases o.1 == 3 with
  | true =>
   simp only [yg]
   cases o.2.1 == 0
   case false => rfl
   cases (o.2.2.2.length : Int) == 0 <;> rfl
  | false =>
   simp only [ye]
   cases o.1 == 4
   case false => rfl
   simp only [yg, yu]
   by_cases z : o.2.1 ≥ 0
   ·rw [decide_eq_true z, yg, yu]
    show (bif decide (o.2.1 < (m.recs.length : Int)) then _ else _) = _
    by_cases h1 : o.2.1 < (m.recs.length : Int)
    ·rw [decide_eq_true h1, yg, yu]
     cases (o.2.2.2.length : Int) == 0
     case false => rfl
     obtain ⟨r, J⟩ := lH z h1
     show ((aD m.recs o.2.1).bind fun x => _) = _
     rw [J, ya, zD n m h s _ _ K A hn H]; rfl
    ·rw [decide_eq_false h1]; rfl
   ·rw [decide_eq_false z]; rfl
end Sx
end
section
namespace Sx
open Go Go.Ab
abbrev Nd := Int × Int × Bool
def s9 (h : Nd) : Bool := bif decide (h.1 < 0) then true else decide (h.1 ≥ 4)
theorem Ph (n : Nat) (h : Nd) : qn n h.1 h.2.1 h.2.2 = some (s9 h) := by
 unfold qn s9
 cases decide (h.1 < 0) <;> rfl
theorem OS (n : Nat) (l : List Nd) (hl : l.length ≤ 3000) (hn : 4000 ≤ n) : qh n l = some (l.any s9) := by
 unfold qh qw
 have h := bA (xs := l) (B := fun s => qw_B0 n s.1 s.2.1 s.2.2) (mk := fun (i : Nat) => (l, (aA l, (i : Int)))) (p := s9) (found := fun i t => Sum.inl (i : Int)) (e := Sum.inr ()) (fun i t hx => ?_) ?_ l.length 0 n (by omega) (by omega)
 ·rw [yl1] at h
  rcases h with ⟨h1, j, x, hx, _, h2⟩ | ⟨h1, h2⟩
  ·rw [show qw_W0 n (l, (aA l, 0)) = _ from h2, h1]
   show some (decide ((j : Int) ≥ 0)) = _
   rw [decide_eq_true (by omega)]
  ·rw [show qw_W0 n (l, (aA l, 0)) = _ from h2, h1]; rfl
 ·have hi := cO hx
  show qw_B0 n l (aA l) (i : Int) = _
  unfold qw_B0
  rw [aC, decide_eq_true (by omega), yg, aE, hx, ya, Ph, ya, aH (by omega)]
  cases s9 t <;> rfl
 ·show qw_B0 n l (aA l) (l.length : Int) = _
  unfold qw_B0
  rw [aC, decide_eq_false (by omega), ye]
theorem OA (n : Nat) (m : aW) (z : List (List dA)) (s : kZ) (H : iE s) (hn : 4000 ≤ n) : qaf n s.2.1 (lk m z s) = some (!s.2.1.all (qG m s), lk m z s) := by
 have hl := H.heap
 unfold qaf qaz
 have h := bA (xs := s.2.1) (B := fun s => qaz_B0 n s.1.1 s.1.2.1 s.1.2.2 s.2) (mk := fun (i : Nat) => ((s.2.1, (aA s.2.1, (i : Int))), lk m z s)) (p := fun o => !qG m s o) (found := fun i t => Sum.inl ((i : Int), lk m z s)) (e := Sum.inr (lk m z s)) (fun i t hx => ?_) ?_ s.2.1.length 0 n (by omega) (by omega)
 ·rw [yl1] at h
  have A : s.2.1.all (qG m s) = !s.2.1.any (fun t => !qG m s t) := by rw [yr2]
  rcases h with ⟨h1, j, x, hx, _, h2⟩ | ⟨h1, h2⟩
  ·rw [show qaz_W0 n ((s.2.1, (aA s.2.1, 0)), lk m z s) = _ from h2, A, h1]
   show some (decide ((j : Int) ≥ 0), lk m z s) = _
   rw [decide_eq_true (by omega)]; rfl
  ·rw [show qaz_W0 n ((s.2.1, (aA s.2.1, 0)), lk m z s) = _ from h2, A, h1]; rfl
 ·have hi := cO hx
  have hm := yj hx
  show qaz_B0 n s.2.1 (aA s.2.1) (i : Int) (lk m z s) = _
  unfold qaz_B0 qj
  rw [aC, decide_eq_true (by omega), yg, aE, hx, ya, Ou n m z s t H (H.ob t hm) (H.sm.o t hm).1 hn, ya, ya, aH (by omega)]
  cases qG m s t <;> rfl
 ·show qaz_B0 n s.2.1 (aA s.2.1) (s.2.1.length : Int) (lk m z s) = _
  unfold qaz_B0
  rw [aC, decide_eq_false (by omega), ye]
def qB (s : kZ) : Bool := decide (s.2.2.2.1 ≥ 0) && (decide (s.2.2.2.1 ≤ 65536) && (decide (s.2.2.2.2.1 ≥ 0) && (decide (s.2.2.2.2.1 ≤ s.2.2.2.1) && (decide (s.2.2.2.2.2.1 ≥ 0) && (decide (s.2.2.2.2.2.1 ≤ 7) && (decide ((s.2.1.length : Int) ≤ 4096) && decide ((s.2.2.1.length : Int) ≤ 16)))))))
def dD (m : aW) (s : kZ) : Bool := qB s && (!(s.2.2.1.any s9) && s.2.1.all (qG m s))
theorem I9 (n : Nat) (m : aW) (h : List (List dA)) (s : kZ) (z : iE s) (hn : 4000 ≤ n) : qt n (lk m h s) = some (dD m s, lk m h s) := by
 have h1 := OS n s.2.2.1 (by have := z.hans; omega) hn
 have h2 := OA n m h s z hn
 unfold qt dD qB
 show (bif decide (s.2.2.2.1 ≥ 0) then bif decide (s.2.2.2.1 ≤ 65536) then bif decide (s.2.2.2.2.1 ≥ 0) then bif decide (s.2.2.2.2.1 ≤ s.2.2.2.1) then bif decide (s.2.2.2.2.2.1 ≥ 0) then bif decide (s.2.2.2.2.2.1 ≤ 7) then bif decide ((s.2.1.length : Int) ≤ 4096) then bif decide ((s.2.2.1.length : Int) ≤ 16) then
  (qh n s.2.2.1).bind fun r => bif !r then (qaf n s.2.1 (lk m h s)).bind fun r => some (!r.1, r.2) else some (false, lk m h s) else some (false, lk m h s) else some (false, lk m h s) else some (false, lk m h s) else some (false, lk m h s) else some (false, lk m h s) else some (false, lk m h s) else some (false, lk m h s) else some (false, lk m h s)) = _
 rw [h1, h2]
 cases decide (s.2.2.2.1 ≥ 0)
 case false => rfl
 cases decide (s.2.2.2.1 ≤ 65536)
 case false => rfl
 cases decide (s.2.2.2.2.1 ≥ 0)
 case false => rfl
 cases decide (s.2.2.2.2.1 ≤ s.2.2.2.1)
 case false => rfl
 cases decide (s.2.2.2.2.2.1 ≥ 0)
 case false => rfl
 cases decide (s.2.2.2.2.2.1 ≤ 7)
 case false => rfl
 cases decide ((s.2.1.length : Int) ≤ 4096)
 case false => rfl
 cases decide ((s.2.2.1.length : Int) ≤ 16)
 case false => rfl
 cases s.2.2.1.any s9 <;> simp
theorem KR (n : Nat) (m : aW) (z : List (List dA)) (s : kZ) (J : iE s) (hn : 4000 ≤ n) :
  qcf_W0 n ((z, 0), (aJ m, s)) = some (if s.2.2.1.any s9 = true then Sum.inl (false, (aJ m, s)) else Sum.inr (z, (aJ m, s))) := by
 have hl := J.hans
 have h := bA (xs := s.2.2.1) (B := fun s => qcf_B0 n s.1.1 s.1.2 s.2.1.1 s.2.1.2.1 s.2.1.2.2.1 s.2.1.2.2.2.1 s.2.1.2.2.2.2 s.2.2) (mk := fun (i : Nat) => ((z, (i : Int)), (aJ m, s))) (p := s9) (found := fun i t => Sum.inl (false, (aJ m, s))) (e := Sum.inr (z, (aJ m, s))) (fun i t hx => ?_) ?_ s.2.2.1.length 0 n (by omega) (by omega)
 ·rw [yl1] at h
  rcases h with ⟨h1, j, x, hx, _, h2⟩ | ⟨h1, h2⟩
  ·rw [show qcf_W0 n ((z, 0), (aJ m, s)) = _ from h2, h1]; rfl
  ·rw [show qcf_W0 n ((z, 0), (aJ m, s)) = _ from h2, h1]; rfl
 ·have hi := cO hx
  show qcf_B0 n z (i : Int) m.recs m.funcs m.imps m.ints m.texts s = _
  unfold qcf_B0 s9
  rw [aC, decide_eq_true (by omega), yg, aE, hx, ya, ya, aH (by omega)]
  by_cases A : t.1 < 0
  ·rw [decide_eq_true A]; rfl
  ·rw [decide_eq_false A]
   by_cases H : t.1 > 3
   ·rw [decide_eq_true H, decide_eq_true (by omega : t.1 ≥ 4)]; rfl
   ·rw [decide_eq_false H, decide_eq_false (by omega : ¬ t.1 ≥ 4)]; rfl
 ·show qcf_B0 n z (s.2.2.1.length : Int) m.recs m.funcs m.imps m.ints m.texts s = _
  unfold qcf_B0
  rw [aC, decide_eq_false (by omega), ye]
theorem PG (n : Nat) (m : aW) (h : List (List dA)) (s : kZ) (i : Nat) (o : PE) (A : iE s) (hn : 4000 ≤ n) (hx : s.2.1[i]? = some o) :
  qcf_B2 n h (i : Int) m.recs m.funcs m.imps m.ints m.texts s = if qG m s o = true then some (Sum.inl ((h, ((i + 1 : Nat) : Int)), (aJ m, s))) else some (Sum.inr (Sum.inl (false, (aJ m, (s, o))))) := by
 have hl := A.heap
 have hi := cO hx
 have hm := yj hx
 unfold qcf_B2 qG
 rw [aC, decide_eq_true (by omega), yg, aE, hx, ya, aH (by omega)]
 simp only [aC]
 by_cases h2 : o.1 = 2
 ·have H : (o.1 == 2) = true := beq_iff_eq.2 h2
  have z : (o.1 == 3) = false := beq_eq_false_iff_ne.2 (by omega)
  have M : (o.1 == 4) = false := beq_eq_false_iff_ne.2 (by omega)
  simp only [H, z, M, yg, ye]
  by_cases K : (o.2.2.2.length : Int) ≤ 64 <;> cases o.2.1 == 0 <;> cases (o.2.2.1.length : Int) == 0 <;> simp [K]
 ·have H : (o.1 == 2) = false := beq_eq_false_iff_ne.2 h2
  by_cases N : o.1 = 3
  ·have z : (o.1 == 3) = true := beq_iff_eq.2 N
   have M : (o.1 == 4) = false := beq_eq_false_iff_ne.2 (by omega)
   simp only [H, z, M, yg, ye]
   by_cases K : (o.2.2.1.length : Int) ≤ 64 <;> cases o.2.1 == 0 <;> cases (o.2.2.2.length : Int) == 0 <;> simp [K]
  ·have z : (o.1 == 3) = false := beq_eq_false_iff_ne.2 N
   simp only [H, z, ye]
   cases o.1 == 4
   case false => rfl
   simp only [yg, yu]
   by_cases J : o.2.1 ≥ 0
   ·simp only [eq_true J, decide_true, yg, yu]
    by_cases h1 : o.2.1 < (m.recs.length : Int)
    ·simp only [eq_true h1, decide_true, yg, yu]
     cases (o.2.2.2.length : Int) == 0
     case false => rfl
     obtain ⟨r, O⟩ := lH J h1
     simp only [O, yg, ya]
     rw [JR n s _ _ A (A.ob o hm) hn (A.sm.o o hm).1, ya]
     cases gO s o.2.2.1 r <;> rfl
    ·simp only [eq_false h1, decide_false]; rfl
   ·simp only [eq_false J, decide_false]; rfl
theorem KI (n : Nat) (m : aW) (z : List (List dA)) (s : kZ) (H : iE s) (hn : 4000 ≤ n) :
  (s.2.1.all (qG m s) = true ∧ qcf_W2 n ((z, 0), (aJ m, s)) = some (Sum.inr (z, (aJ m, s)))) ∨ (s.2.1.all (qG m s) = false ∧ ∃ o, qcf_W2 n ((z, 0), (aJ m, s)) = some (Sum.inl (false, (aJ m, (s, o))))) := by
 have hl := H.heap
 have h := bA (xs := s.2.1) (B := fun s => qcf_B2 n s.1.1 s.1.2 s.2.1.1 s.2.1.2.1 s.2.1.2.2.1 s.2.1.2.2.2.1 s.2.1.2.2.2.2 s.2.2) (mk := fun (i : Nat) => ((z, (i : Int)), (aJ m, s))) (p := fun o => !qG m s o) (found := fun i o => Sum.inl (false, (aJ m, (s, o)))) (e := Sum.inr (z, (aJ m, s))) (fun i t hx => ?_) ?_ s.2.1.length 0 n (by omega) (by omega)
 ·rw [yl1] at h
  have A : s.2.1.all (qG m s) = !s.2.1.any (fun t => !qG m s t) := by rw [yr2]
  rcases h with ⟨h1, j, x, hx, _, h2⟩ | ⟨h1, h2⟩
  ·exact .inr ⟨by rw [A, h1]; rfl, x, h2⟩
  ·exact .inl ⟨by rw [A, h1]; rfl, h2⟩
 ·show qcf_B2 n z (i : Int) m.recs m.funcs m.imps m.ints m.texts s = _
  rw [PG n m z s i t H hn hx]
  cases qG m s t <;> rfl
 ·show qcf_B2 n z (s.2.1.length : Int) m.recs m.funcs m.imps m.ints m.texts s = _
  unfold qcf_B2
  rw [aC, decide_eq_false (by omega), ye]
end Sx
end
section
namespace Sx
open Go Go.Ab
theorem FW {X S : Type} {B : S → Option (S ⊕ X)} {mk : Nat → S} {q : Nat → Bool} {found : Nat → Bool → X} {k : Nat}
  (K : ∀ i, i + 1 < k → B (mk i) = if q i = true then some (.inl (mk (i + 1))) else some (.inr (found i false))) (hl : ∀ i, i + 1 = k → B (mk i) = some (.inr (found i (q i)))) :
  ∀ (j i n : Nat), i + j + 1 = k → j < n → ∃ H b, aL B n (mk i) = some (found H b) ∧ (b = true ↔ ∀ t, i ≤ t → t < k → q t = true)
 | 0, i, n + 1, h, _ => ⟨i, q i, bG (hl i (by omega)), fun z t h1 h2 => by rw [show t = i by omega]; exact z, fun A => A i (by omega) (by omega)⟩
 | j + 1, i, n + 1, h, hn => by
  have h1 := K i (by omega)
  cases A : q i with
  | true =>
   rw [A, if_pos rfl] at h1
   obtain ⟨H, b, h2, O⟩ := FW K hl j (i + 1) n (by omega) (by omega)
   refine ⟨H, b, by rw [bM h1]; exact h2, O.trans ⟨fun z t M J => ?_, fun z t M J => z t (by omega) J⟩⟩
   rcases yz1 i t with N | N
   ·exact z t (by omega) J
   ·rw [show t = i by omega]; exact A
  | false =>
   rw [A, if_neg (by simp)] at h1
   exact ⟨i, false, bG h1, fun z => (by cases z), fun z => by rw [z i (by omega) (by omega)] at A; cases A⟩
 | _, _, 0, _, hn => by omega
theorem HQ {X S : Type} {B : S → Option (S ⊕ X)} {mk : Nat → S} {q : Nat → Bool} {bad : X → Prop} {e : X} {k : Nat}
  (ht : ∀ i, i < k → q i = true → B (mk i) = some (.inl (mk (i + 1)))) (hf : ∀ i, i < k → q i = false → ∃ y, B (mk i) = some (.inr y) ∧ bad y) (J : B (mk k) = some (.inr e)) :
  ∀ (j i n : Nat), i + j = k → j < n → ((∀ t, i ≤ t → t < k → q t = true) ∧ aL B n (mk i) = some e) ∨ ((¬ ∀ t, i ≤ t → t < k → q t = true) ∧ ∃ y, aL B n (mk i) = some y ∧ bad y)
 | 0, i, n + 1, h, _ => .inl ⟨fun t h1 h2 => by omega, bG (by rw [show i = k by omega]; exact J)⟩
 | j + 1, i, n + 1, h, hn => by
  cases z : q i with
  | true =>
   rw [bM (ht i (by omega) z)]
   rcases HQ ht hf J j (i + 1) n (by omega) (by omega) with ⟨h1, h2⟩ | ⟨h1, h2⟩
   ·refine .inl ⟨fun t K H => ?_, h2⟩
    rcases yz1 i t with M | M
    ·exact h1 t (by omega) H
    ·rw [show t = i by omega]; exact z
   ·exact .inr ⟨fun A => h1 fun t K H => A t (by omega) H, h2⟩
  | false =>
   obtain ⟨y, h1, h2⟩ := hf i (by omega) z
   exact .inr ⟨fun A => (by rw [A i (by omega) (by omega)] at z; cases z), y, bG h1, h2⟩
 | _, _, 0, _, hn => by omega
structure Dc (m : aW) (maps : List (List dA)) (fr : Pc) (fk pk : Nat) (f : iT) (sh : List dA) (x : dA) : Prop where
 h1 : fr.1 = (fk : Int)
 h2 : fr.2.1 = (pk : Int)
 hf : m.funcs[fk]? = some f
 hm : maps[fk]? = some sh
 hx : sh[pk]? = some x
 hl : sh.length = f.2.2.2.2.length
 ok : nT m f sh = true
 seen : x.1 = true
theorem IB {m : aW} {z : List (List dA)} (hR : e9 m z = true) {k : Nat} {f : iT} (hf : m.funcs[k]? = some f) : ∃ sh, z[k]? = some sh ∧ nT m f sh = true ∧ sh.length = f.2.2.2.2.length := by
 unfold e9 at hR
 simp only [yc, decide_eq_true_eq] at hR
 obtain ⟨_, hl, H⟩ := hR
 have hk := cO hf
 have A : k < z.length := by omega
 have h := yx.1 H k (List.mem_range.2 A)
 rw [GN (yd A) hf] at h
 refine ⟨_, yd A, h, ?_⟩
 unfold nT at h
 simp only [yc, decide_eq_true_eq] at h
 exact h.1.1
theorem Ok {m : aW} {f : iT} {sh : List dA} (h : nT m f sh = true) {k : Nat} (z : k < sh.length) : kY m f sh k = true := by
 unfold nT at h
 simp only [yc] at h
 exact yx.1 h.2 k (List.mem_range.2 z)
theorem k7 (n : Nat) (m : aW) (A : List (List dA)) (s : kZ) (hR : e9 m A = true) (fr : Pc) :
  (∃ O pk f sh x, Dc m A fr O pk f sh x) ∨
  (qas n fr.1 fr.2.1 fr.2.2.1 fr.2.2.2 (lk m A s) = some (false, lk m A s) ∧ ∀ k, aD s.1 k = some fr → qbz n m.recs m.funcs m.imps m.ints m.texts A s k = some ([], false)) := by
 by_cases U : fr.1 < 0
 ·refine .inr ⟨?_, fun k J => ?_⟩
  ·unfold qas; rw [decide_eq_true U]; rfl
  ·unfold qbz; rw [J, ya, decide_eq_true U]; rfl
 by_cases W : fr.1 ≥ (m.funcs.length : Int)
 ·refine .inr ⟨?_, fun k J => ?_⟩
  ·unfold qas
   show (bif decide (fr.1 < 0) then _ else bif decide (fr.1 ≥ (m.funcs.length : Int)) then _ else _) = _
   rw [decide_eq_false U, decide_eq_true W]; rfl
  ·unfold qbz
   rw [J, ya, decide_eq_false U, aC, decide_eq_true W]; rfl
 obtain ⟨O, hfk⟩ : ∃ O : Nat, fr.1 = (O : Int) := ⟨fr.1.toNat, by omega⟩
 obtain ⟨f, hf⟩ : ∃ f, m.funcs[O]? = some f := ⟨_, yd (by omega)⟩
 obtain ⟨sh, hm, hok, hl⟩ := IB hR hf
 have gf : aD m.funcs fr.1 = some f := by rw [hfk, aE]; exact hf
 have gm : aD A fr.1 = some sh := by rw [hfk, aE]; exact hm
 have hA : qas n fr.1 fr.2.1 fr.2.2.1 fr.2.2.2 (lk m A s) = bif decide (fr.2.1 < 0) then some (false, lk m A s) else bif decide (fr.2.1 ≥ aA f.2.2.2.2) then some (false, lk m A s) else (aD sh fr.2.1).bind fun x => bif !x.1 then some (false, lk m A s) else
   (qby n (f.1 :: (f.2.2.2.1 :: ([] : List (List (Int × Int)))))).bind fun K =>
      Sum.rec (fun H =>
       bif (Nat.ble (H.1.1 + H.1.2) (List.length H.2)) then
        (qz n fr.2.2.1 (List.take H.1.2 (List.drop H.1.1 H.2)) (lk m A s)).bind fun r1040 =>
        none
       else none) (fun M =>
       (qz n fr.2.2.1 M (lk m A s)).bind fun N =>
       some N) K := by
  unfold qas
  show (bif decide (fr.1 < 0) then _ else bif decide (fr.1 ≥ (m.funcs.length : Int)) then _ else bif decide (fr.2.1 < 0) then _ else ((aD m.funcs fr.1).bind fun x => bif decide (fr.2.1 ≥ aA x.2.2.2.2) then _ else ((aD A fr.1).bind fun y => (aD y fr.2.1).bind fun z => bif !z.1 then _ else ((aD m.funcs fr.1).bind fun _ => _)))) = _
  rw [decide_eq_false U, decide_eq_false W, gf, gm]; rfl
 have hS : ∀ k, aD s.1 k = some fr → decide (fr.2.1 < 0) = true ∨ decide (fr.2.1 ≥ aA f.2.2.2.2) = true ∨ (∃ x, aD sh fr.2.1 = some x ∧ x.1 = false) → qbz n m.recs m.funcs m.imps m.ints m.texts A s k = some ([], false) := by
  intro k J h
  unfold qbz
  rw [J, ya, decide_eq_false U, aC, decide_eq_false W, ye, ye, gf, gm]
  simp only [ya]
  rcases h with h | h | ⟨x, h, hx⟩
  ·rw [h]; rfl
  ·rw [h]; cases decide (fr.2.1 < 0) <;> rfl
  ·rw [h]
   simp only [ya, hx]
   cases decide (fr.2.1 < 0)
   case true => rfl
   cases decide (fr.2.1 ≥ aA f.2.2.2.2) <;> rfl
 by_cases Y : fr.2.1 < 0
 ·refine .inr ⟨by rw [hA, decide_eq_true Y]; rfl, fun k J => hS k J (.inl (decide_eq_true Y))⟩
 by_cases V : fr.2.1 ≥ aA f.2.2.2.2
 ·refine .inr ⟨by rw [hA, decide_eq_false Y, decide_eq_true V]; rfl, fun k J => hS k J (.inr (.inl (decide_eq_true V)))⟩
 rw [aC] at V
 obtain ⟨pk, hpk⟩ : ∃ pk : Nat, fr.2.1 = (pk : Int) := ⟨fr.2.1.toNat, by omega⟩
 obtain ⟨x, hx⟩ : ∃ x, sh[pk]? = some x := ⟨_, yd (by omega)⟩
 have gx : aD sh fr.2.1 = some x := by rw [hpk, aE]; exact hx
 cases Z : x.1 with
 | false =>
  refine .inr ⟨?_, fun k J => hS k J (.inr (.inr ⟨x, gx, Z⟩))⟩
  rw [hA, decide_eq_false Y, decide_eq_false (by rw [aC]; exact V), gx]
  simp only [ye, ya, Z]; rfl
 | true => exact .inl ⟨O, pk, f, sh, x, hfk, hpk, hf, hm, hx, hl, hok, Z⟩
end Sx
end
section
namespace Sx
open Go Go.Ab
theorem Lh {m : aW} {f : iT} {i : B6} {s : List cQ} {pk : Int} (K : cA m = 0) (hf : f ∈ m.funcs) (H : i ∈ f.2.2.2.2) (z : i.1 = 25) :
  ∃ h, aD m.funcs i.2.1 = some h ∧ ((eO m f i pk s).2.2 = 0 → h.1.length ≤ s.length) ∧ 0 ≤ i.2.1 ∧ i.2.1 < (m.funcs.length : Int) := by
 have hN := kC K hf H
 have J := mN ((cZ (cJ K).1).2.2.2.1 f hf |>.1 i H)
 obtain ⟨op, x, y⟩ := i
 simp only at z; subst z
 have hA : x < (m.funcs.length : Int) := of_decide_eq_true (show decide (x < aA m.funcs) = true from hN)
 obtain ⟨h, M⟩ := lH J.1 hA
 refine ⟨h, M, fun A => ?_, J.1, hA⟩
 have N : BK m f (25, x, y) s = (h.1, [(h.2.1, h.2.2.1)], true) := by
  unfold BK
  rw [show qcs 10000 m.recs m.funcs m.imps m.ints m.texts f.1 f.2.1 f.2.2.1 f.2.2.2.1 f.2.2.2.2 25 x y s = ((aD m.funcs x).bind fun a => (aD m.funcs x).bind fun b => some (a.1, (((b.2.1, b.2.2.1) :: ([] : List (Int × Int))), true))) from rfl]
  rw [M]; rfl
 unfold eO m7 at A
 rw [N] at A
 by_cases hl : s.length < h.1.length
 ·rw [if_pos (.inr (.inl hl))] at A; exact absurd A (by decide)
 ·omega
theorem L7 {m : aW} {f : iT} {sh : List dA} {k : Nat} {x : dA} {i : B6} (hx : sh[k]? = some x) (z : f.2.2.2.2[k]? = some i) (h : kY m f sh k = true) (h1 : x.1 = true) : (eO m f i (k : Int) x.2).2.2 = 0 ∧ x.2.length ≤ 8 := by
 unfold kY at h
 rw [hx, z] at h
 change BF m f sh i (k : Int) x = true at h
 unfold BF at h
 simp only [h1, yc, yy, decide_eq_false_iff_not, yw, yl3, beq_iff_eq] at h
 exact ⟨h.2.1, by omega⟩
section
variable {n : Nat} {m : aW} {maps : List (List dA)} {s : kZ} {fr : Pc} {fk pk : Nat} {f : iT} {sh : List dA} {x : dA}
theorem Lf (O : cA m = 0) (H : iE s) (hn : 4000 ≤ n) (A : fr ∈ s.1) (h : Dc m maps fr fk pk f sh x) :
  qas n fr.1 fr.2.1 fr.2.2.1 fr.2.2.2 (lk m maps s) = some (gO s fr.2.2.1 (f.1 ++ f.2.2.2.1), lk m maps s) := by
 have hk := cO h.hf
 have K := cO h.hx
 have hl := h.hl
 have hb := (cZ (cJ O).1).2.2.2.1 f (yj h.hf)
 unfold qas
 show (bif decide (fr.1 < 0) then _ else bif decide (fr.1 ≥ (m.funcs.length : Int)) then _ else bif decide (fr.2.1 < 0) then _ else ((aD m.funcs fr.1).bind fun x => bif decide (fr.2.1 ≥ aA x.2.2.2.2) then _ else ((aD maps fr.1).bind fun y => (aD y fr.2.1).bind fun z => bif !z.1 then _ else ((aD m.funcs fr.1).bind fun _ => _)))) = _
 have M : aD m.funcs fr.1 = some f := by rw [h.h1, aE]; exact h.hf
 have J : aD maps fr.1 = some sh := by rw [h.h1, aE]; exact h.hm
 have N : aD sh fr.2.1 = some x := by rw [h.h2, aE]; exact h.hx
 have e1 := h.h1
 have e2 := h.h2
 rw [decide_eq_false (by omega), decide_eq_false (by omega), decide_eq_false (by omega), M, J]
 simp only [ye, ya, N, h.seen, yw]
 rw [decide_eq_false (by rw [aC]; omega), ye, F1 n f.1 f.2.2.2.1 (by omega) (by omega) (by omega)]
 show ((qz n fr.2.2.1 (f.1 ++ f.2.2.2.1) (lk m maps s)).bind fun r => some r) = _
 rw [zD n m maps s _ _ H (H.fl fr A).1 hn (H.sm.f fr A).1]; rfl
theorem CF (N : iE s) {k : Nat} (H : s.1[k]? = some fr) (z : k + 1 = s.1.length) (h : Dc m maps fr fk pk f sh x) :
  qbz n m.recs m.funcs m.imps m.ints m.texts maps s (k : Int) = some (x.2, true) := by
 have J := cO h.hf
 have K := cO h.hx
 have hl := h.hl
 have U := N.frames
 unfold qbz
 have M : aD m.funcs fr.1 = some f := by rw [h.h1, aE]; exact h.hf
 have A : aD maps fr.1 = some sh := by rw [h.h1, aE]; exact h.hm
 have O : aD sh fr.2.1 = some x := by rw [h.h2, aE]; exact h.hx
 have e1 := h.h1
 have e2 := h.h2
 rw [aE, H, ya, decide_eq_false (by omega), aC, decide_eq_false (by omega), decide_eq_false (by omega), M]
 simp only [ye, ya]
 rw [decide_eq_false (by rw [aC]; omega), A]
 simp only [ye, ya, O, h.seen, yw]
 rw [aC, bW (by omega) (by omega), show ((k : Int) == (s.1.length : Int) - 1) = true from beq_iff_eq.2 (by omega)]; rfl
theorem JW (hc : cA m = 0) (hs : iE s) (hn : 4000 ≤ n) (hfr : fr ∈ s.1) {k : Nat} (hk : s.1[k]? = some fr) {g : Pc} (hg : s.1[k + 1]? = some g) (J : Dc m maps fr fk pk f sh x) :
  ∃ (c : Bool) (ts : List cQ), (c = true → qbz n m.recs m.funcs m.imps m.ints m.texts maps s (k : Int) = some (ts, true)) ∧ (c = false → qbz n m.recs m.funcs m.imps m.ints m.texts maps s (k : Int) = some ([], false)) ∧
   qab n fr.1 fr.2.1 fr.2.2.1 fr.2.2.2 g.1 g.2.1 g.2.2.1 g.2.2.2 (lk m maps s) = some (c && gO s fr.2.2.2 ts, lk m maps s) := by
 have hk' := cO J.hf
 have hpk := cO J.hx
 have hl := J.hl
 have hkl := cO hg
 have hfl := hs.frames
 have gf : aD m.funcs fr.1 = some f := by rw [J.h1, aE]; exact J.hf
 have gm : aD maps fr.1 = some sh := by rw [J.h1, aE]; exact J.hm
 have gx : aD sh fr.2.1 = some x := by rw [J.h2, aE]; exact J.hx
 have e1 := J.h1
 have e2 := J.h2
 have hS : qbz n m.recs m.funcs m.imps m.ints m.texts maps s (k : Int) = bif fr.2.1 == 0 then some ([], false) else
   (aD sh (a8 .i64 fr.2.1 1)).bind fun V => bif !V.1 then some ([], false) else (aD f.2.2.2.2 (a8 .i64 fr.2.1 1)).bind fun M => bif M.1 != 25 then some ([], false) else
    bif M.2.1 != g.1 then some ([], false) else (aD sh (a8 .i64 fr.2.1 1)).bind fun H => (aD m.funcs M.2.1).bind fun K =>
     bif ((decide (0 ≤ (a8 .i64 (aA H.2) (aA K.1)))) && (decide ((a8 .i64 (aA H.2) (aA K.1)) ≤ (((List.length H.2) : Nat) : Int)))) then
      some ((List.take (Int.toNat (a8 .i64 (aA H.2) (aA K.1))) H.2), true)
     else none := by
  unfold qbz
  rw [aE, hk, ya, decide_eq_false (by omega), aC, decide_eq_false (by omega), decide_eq_false (by omega), gf]
  simp only [ye, ya]
  rw [decide_eq_false (by rw [aC]; omega), gm]
  simp only [ye, ya, gx, J.seen, yw]
  rw [aC, bW (by omega) (by omega), show ((k : Int) == (s.1.length : Int) - 1) = false from beq_eq_false_iff_ne.2 (by omega), aH (by omega), aE, hg]
  rfl
 have hB : qab n fr.1 fr.2.1 fr.2.2.1 fr.2.2.2 g.1 g.2.1 g.2.2.1 g.2.2.2 (lk m maps s) = bif decide (g.1 ≥ 0) then bif decide (g.1 < (m.funcs.length : Int)) then (bif fr.2.1 == 0 then some (false, lk m maps s) else
   (aD f.2.2.2.2 (a8 .i64 fr.2.1 1)).bind fun U => (aD sh (a8 .i64 fr.2.1 1)).bind fun A => bif U.1 != 25 then some (false, lk m maps s) else bif U.2.1 != g.1 then some (false, lk m maps s) else bif !A.1 then some (false, lk m maps s) else
    (aD m.funcs g.1).bind fun N =>
     bif ((decide (0 ≤ (a8 .i64 (aA A.2) (aA N.1)))) && (decide ((a8 .i64 (aA A.2) (aA N.1)) ≤ (((List.length A.2) : Nat) : Int)))) then
      (qz n fr.2.2.2 (List.take (Int.toNat (a8 .i64 (aA A.2) (aA N.1))) A.2) (lk m maps s)).bind fun Y =>
      some Y
     else none).bind (fun r => some r) else some (false, lk m maps s) else some (false, lk m maps s) := by
  unfold qab qp
  show (bif decide (g.1 ≥ 0) then bif decide (g.1 < (m.funcs.length : Int)) then (bif fr.2.1 == 0 then _ else (aD m.funcs fr.1).bind fun x => (aD x.2.2.2.2 (a8 .i64 fr.2.1 1)).bind fun y => (aD maps fr.1).bind fun z => _).bind _ else _ else _) = _
  rw [gf, gm]; rfl
 by_cases h0 : fr.2.1 = 0
 ·have b0 : (fr.2.1 == 0) = true := beq_iff_eq.2 h0
  refine ⟨false, [], fun h => (by cases h), fun _ => by rw [hS, b0]; rfl, ?_⟩
  rw [hB, b0]
  cases decide (g.1 ≥ 0) <;> cases decide (g.1 < (m.funcs.length : Int)) <;> rfl
 have b0 : (fr.2.1 == 0) = false := beq_eq_false_iff_ne.2 h0
 have hsub : a8 .i64 fr.2.1 1 = ((pk - 1 : Nat) : Int) := by
  have h64 := ((cZ (cJ hc).1).2.2.2.1 f (yj J.hf)).2.1
  rw [bW (by omega) (by omega)]; omega
 obtain ⟨i', hi'⟩ : ∃ i, f.2.2.2.2[pk - 1]? = some i := ⟨_, yd (by omega)⟩
 obtain ⟨x', hx'⟩ : ∃ i, sh[pk - 1]? = some i := ⟨_, yd (by omega)⟩
 rw [hS, hB, b0, hsub, aE, aE, hi', hx']
 simp only [ye, ya]
 by_cases W : i'.1 = 25
 ·obtain ⟨h, hh, Z, r0, r1⟩ := Lh (s := x'.2) (pk := ((pk - 1 : Nat) : Int)) hc (yj J.hf) (yj hi') W
  have O : (i'.1 != 25) = false := by rw [W]; rfl
  by_cases hA : i'.2.1 = g.1
  ·have nA : (i'.2.1 != g.1) = false := by rw [hA]; simp
   rw [O, nA, hh, ← hA, hh, decide_eq_true r0, decide_eq_true r1]
   simp only [ye, yg, ya]
   cases hs' : x'.1 with
   | false => exact ⟨false, [], fun h => (by cases h), fun _ => rfl, rfl⟩
   | true =>
    have hok := Ok J.ok (k := pk - 1) (by omega)
    obtain ⟨hz, h8⟩ := L7 hx' hi' hok hs'
    have hle := Z hz
    have hsb : a8 .i64 (aA x'.2) (aA h.1) = ((x'.2.length - h.1.length : Nat) : Int) := by
     rw [aC, aC, bW (by omega) (by omega)]; omega
    refine ⟨true, x'.2.take (x'.2.length - h.1.length), fun _ => ?_, fun h => (by cases h), ?_⟩
    ·rw [hsb, decide_eq_true (by omega), decide_eq_true (by omega)]; rfl
    ·rw [hsb, decide_eq_true (by omega), decide_eq_true (by omega), yb1]
     simp only [yw, ye, yd2, yg]
     rw [zD n m maps s _ _ hs (hs.fl fr hfr).2 hn (hs.sm.f fr hfr).2]; rfl
  ·have nA : (i'.2.1 != g.1) = true := bne_iff_ne.2 hA
   refine ⟨false, [], fun h => (by cases h), fun _ => ?_, ?_⟩
   ·rw [O, nA]; cases x'.1 <;> rfl
   ·rw [O, nA]; cases decide (g.1 ≥ 0) <;> cases decide (g.1 < (m.funcs.length : Int)) <;> rfl
 ·have O : (i'.1 != 25) = true := bne_iff_ne.2 W
  refine ⟨false, [], fun h => (by cases h), fun _ => ?_, ?_⟩
  ·rw [O]; cases x'.1 <;> rfl
  ·rw [O]; cases decide (g.1 ≥ 0) <;> cases decide (g.1 < (m.funcs.length : Int)) <;> rfl
end
end Sx
end
section
namespace Sx
open Go Go.Ab
def NO (m : aW) (maps : List (List dA)) (s : kZ) (k : Nat) (b : Bool) : Prop :=
 ∃ fr, s.1[k]? = some fr ∧
 (k + 1 < s.1.length → qo_B0 10000 s.1 s.1 (aA s.1) (k : Int) (lk m maps s) = if (b && (!(k == 0) || fr.1 == 0)) = true then some (Sum.inl ((s.1, (s.1, (aA s.1, ((k + 1 : Nat) : Int)))), lk m maps s)) else some (Sum.inr (Sum.inl (false, (lk m maps s, fr))))) ∧
 (k + 1 = s.1.length → qo_B0 10000 s.1 s.1 (aA s.1) (k : Int) (lk m maps s) = some (Sum.inr (Sum.inl (b && (!(k == 0) || fr.1 == 0), (lk m maps s, fr))))) ∧
 (b = true → qcf_B5 10000 maps (k : Int) m.recs m.funcs m.imps m.ints m.texts s = some (Sum.inl ((maps, ((k + 1 : Nat) : Int)), (aJ m, s)))) ∧
 (b = false → (∃ y, qcf_B5 10000 maps (k : Int) m.recs m.funcs m.imps m.ints m.texts s = some (Sum.inr (Sum.inl (false, y)))) ∨ ∃ y, qcf_B5 10000 maps (k : Int) m.recs m.funcs m.imps m.ints m.texts s = some (Sum.inr (Sum.inr (Sum.inl (false, y)))))
theorem PQ (k : Nat) : (((k : Int) == 0) : Bool) = (k == 0) := by
 cases k with
 | zero => rfl
 | succ k => exact (beq_eq_false_iff_ne.2 (by omega)).trans (beq_eq_false_iff_ne.2 (by omega)).symm
theorem q4 {m : aW} {z : List (List dA)} {s : kZ} (Y : iE s) {k : Nat} {fr : Pc} (O : s.1[k]? = some fr) {a : Bool} (U : qas 10000 fr.1 fr.2.1 fr.2.2.1 fr.2.2.2 (lk m z s) = some (a, lk m z s))
  {c : Bool} (hl : a = true → k + 1 = s.1.length → ∃ sh x, aD z fr.1 = some sh ∧ aD sh fr.2.1 = some x ∧ qz 10000 fr.2.2.2 x.2 (lk m z s) = some (c, lk m z s))
  (hn : a = true → k + 1 < s.1.length → ∃ g, s.1[k + 1]? = some g ∧ qab 10000 fr.1 fr.2.1 fr.2.2.1 fr.2.2.2 g.1 g.2.1 g.2.2.1 g.2.2.2 (lk m z s) = some (c, lk m z s)) :
  (k + 1 < s.1.length → qo_B0 10000 s.1 s.1 (aA s.1) (k : Int) (lk m z s) = if ((a && c) && (!(k == 0) || fr.1 == 0)) = true then some (Sum.inl ((s.1, (s.1, (aA s.1, ((k + 1 : Nat) : Int)))), lk m z s)) else some (Sum.inr (Sum.inl (false, (lk m z s, fr))))) ∧
  (k + 1 = s.1.length → qo_B0 10000 s.1 s.1 (aA s.1) (k : Int) (lk m z s) = some (Sum.inr (Sum.inl ((a && c) && (!(k == 0) || fr.1 == 0), (lk m z s, fr))))) := by
 have hfl := Y.frames
 have V := cO O
 have hU : qo_B0 10000 s.1 s.1 (aA s.1) (k : Int) (lk m z s) = bif !a then some (Sum.inr (Sum.inl (false, (lk m z s, fr)))) else
   (bif k == 0 then bif fr.1 != 0 then some (Sum.inr (Sum.inl (false, (lk m z s, fr)))) else
    bif ((k : Int) == (s.1.length : Int) - 1) then (aD z fr.1).bind fun M => (aD M fr.2.1).bind fun K => (qz 10000 fr.2.2.2 K.2 (lk m z s)).bind fun J => some (Sum.inr (Sum.inl (J.1, (J.2, fr))))
    else (s.1[k + 1]?).bind fun A => (qab 10000 fr.1 fr.2.1 fr.2.2.1 fr.2.2.2 A.1 A.2.1 A.2.2.1 A.2.2.2 (lk m z s)).bind fun H => bif !H.1 then some (Sum.inr (Sum.inl (false, (H.2, fr)))) else some (Sum.inl ((s.1, (s.1, (aA s.1, ((k + 1 : Nat) : Int)))), H.2))
   else
    bif ((k : Int) == (s.1.length : Int) - 1) then (aD z fr.1).bind fun M => (aD M fr.2.1).bind fun K => (qz 10000 fr.2.2.2 K.2 (lk m z s)).bind fun J => some (Sum.inr (Sum.inl (J.1, (J.2, fr))))
    else (s.1[k + 1]?).bind fun A => (qab 10000 fr.1 fr.2.1 fr.2.2.1 fr.2.2.2 A.1 A.2.1 A.2.2.1 A.2.2.2 (lk m z s)).bind fun H => bif !H.1 then some (Sum.inr (Sum.inl (false, (H.2, fr)))) else some (Sum.inl ((s.1, (s.1, (aA s.1, ((k + 1 : Nat) : Int)))), H.2))) := by
  unfold qo_B0
  rw [aC, decide_eq_true (by omega), yg, aE, O, ya, U, ya, PQ, bW (by omega) (by omega), aH (by omega), aE]
  rfl
 rw [hU]
 cases a with
 | false => exact ⟨fun _ => rfl, fun _ => rfl⟩
 | true =>
  have N : (fr.1 != 0) = !(fr.1 == 0) := rfl
  refine ⟨fun h => ?_, fun h => ?_⟩
  ·obtain ⟨g, W, e⟩ := hn rfl h
   rw [show ((k : Int) == (s.1.length : Int) - 1) = false from beq_eq_false_iff_ne.2 (by omega), W, ya, e, N]
   cases k == 0 <;> cases fr.1 == 0 <;> cases c <;> rfl
  ·obtain ⟨sh, x, g1, Z, e⟩ := hl rfl h
   rw [show ((k : Int) == (s.1.length : Int) - 1) = true from beq_iff_eq.2 (by omega), g1, ya, Z, ya, e, N]
   cases k == 0 <;> cases fr.1 == 0 <;> cases c <;> rfl
theorem Ey {m : aW} {h : List (List dA)} {s : kZ} (N : cA m = 0) (z : iE s) {k : Nat} {fr : Pc} (A : s.1[k]? = some fr) {H : Nat} {f : iT} (U : fr.1 = (H : Int)) (hf : m.funcs[H]? = some f) {ts : List cQ}
  (hS : qbz 10000 m.recs m.funcs m.imps m.ints m.texts h s (k : Int) = some (ts, true)) :
  ((gO s fr.2.2.1 (f.1 ++ f.2.2.2.1) && gO s fr.2.2.2 ts) = true → qcf_B5 10000 h (k : Int) m.recs m.funcs m.imps m.ints m.texts s = some (Sum.inl ((h, ((k + 1 : Nat) : Int)), (aJ m, s)))) ∧
  ((gO s fr.2.2.1 (f.1 ++ f.2.2.2.1) && gO s fr.2.2.2 ts) = false → (∃ y, qcf_B5 10000 h (k : Int) m.recs m.funcs m.imps m.ints m.texts s = some (Sum.inr (Sum.inl (false, y)))) ∨ ∃ y, qcf_B5 10000 h (k : Int) m.recs m.funcs m.imps m.ints m.texts s = some (Sum.inr (Sum.inr (Sum.inl (false, y))))) := by
 have O := z.frames
 have J := cO A
 have hm := yj A
 have hb := (cZ (cJ N).1).2.2.2.1 f (yj hf)
 have M : aD m.funcs fr.1 = some f := by rw [U, aE]; exact hf
 have V := JR 10000 s fr.2.2.2 ts z (z.fl fr hm).2 (by omega) (z.sm.f fr hm).2
 have K := JR 10000 s fr.2.2.1 (f.1 ++ f.2.2.2.1) z (z.fl fr hm).1 (by omega) (z.sm.f fr hm).1
 have hU : qcf_B5 10000 h (k : Int) m.recs m.funcs m.imps m.ints m.texts s = bif !gO s fr.2.2.2 ts then some (Sum.inr (Sum.inl (false, (aJ m, s)))) else bif !gO s fr.2.2.1 (f.1 ++ f.2.2.2.1) then some (Sum.inr (Sum.inr (Sum.inl (false, (aJ m, (s, (f, (f.1 ++ f.2.2.2.1)))))))) else
   some (Sum.inl ((h, ((k + 1 : Nat) : Int)), (aJ m, s))) := by
  unfold qcf_B5
  rw [aC, decide_eq_true (by omega), yg, hS]
  simp only [ya, yw, ye]
  rw [aE, A]
  simp only [ya]
  rw [V, M]
  simp only [ya]
  rw [aU (by omega), aU (by simp; omega), K, aH (by omega)]
  rfl
 rw [hU]
 cases gO s fr.2.2.2 ts <;> cases gO s fr.2.2.1 (f.1 ++ f.2.2.2.1) <;> simp
theorem Cv {m : aW} {z : List (List dA)} {s : kZ} (hR : e9 m z = true) (M : cA m = 0) (A : iE s) {k : Nat} (U : k < s.1.length) : ∃ b, NO m z s k b := by
 obtain ⟨fr, hfr⟩ : ∃ fr, s.1[k]? = some fr := ⟨_, yd U⟩
 have O := A.frames
 have hm := yj hfr
 rcases k7 10000 m z s hR fr with ⟨fk, pk, f, sh, x, H⟩ | ⟨K, hS⟩
 ·have K := Lf (n := 10000) M A (by omega) hm H
  by_cases J : k + 1 = s.1.length
  ·have hS := CF (n := 10000) A hfr J H
   have h1 := q4 A hfr K (c := gO s fr.2.2.2 x.2) (fun _ _ => ⟨sh, x, by rw [H.h1, aE]; exact H.hm, by rw [H.h2, aE]; exact H.hx, zD 10000 m z s _ _ A (A.fl fr hm).2 (by omega) (A.sm.f fr hm).2⟩) (fun _ h => by omega)
   have h2 := Ey M A hfr H.h1 H.hf hS
   exact ⟨_, fr, hfr, h1.1, h1.2, h2.1, h2.2⟩
  ·obtain ⟨g, hg⟩ : ∃ g, s.1[k + 1]? = some g := ⟨_, yd (by omega)⟩
   obtain ⟨c, ts, V, W, N⟩ := JW (n := 10000) M A (by omega) hm hfr hg H
   have h1 := q4 A hfr K (c := c && gO s fr.2.2.2 ts) (fun _ h => absurd h J) (fun _ _ => ⟨g, hg, N⟩)
   cases c with
   | true =>
    have h2 := Ey M A hfr H.h1 H.hf (V rfl)
    rw [yu] at h1
    exact ⟨_, fr, hfr, h1.1, h1.2, h2.1, h2.2⟩
   | false =>
    rw [Bool.false_and, Bool.and_false] at h1
    refine ⟨false, fr, hfr, h1.1, h1.2, fun h => (by cases h), fun _ => .inl ⟨(aJ m, s), ?_⟩⟩
    unfold qcf_B5
    rw [aC, decide_eq_true (by omega), yg, W rfl]; rfl
 ·have h1 := q4 A hfr K (c := false) (fun h => (by cases h)) (fun h => (by cases h))
  refine ⟨false, fr, hfr, h1.1, h1.2, fun h => (by cases h), fun _ => .inl ⟨(aJ m, s), ?_⟩⟩
  unfold qcf_B5
  rw [aC, decide_eq_true (by omega), yg, hS _ (by rw [aE]; exact hfr)]; rfl
end Sx
end
section
namespace Sx
open Go Go.Ab
theorem II {m : aW} {z : List (List dA)} {s : kZ} (hR : e9 m z = true) (J : cA m = 0) (H : iE s) : ∃ q : Nat → Bool, ∀ k, k < s.1.length → NO m z s k (q k) := by
 classical
 refine ⟨fun k => if h : k < s.1.length then Classical.choose (Cv hR J H h) else false, fun k A => ?_⟩
 simp only [dif_pos A]
 exact Classical.choose_spec (Cv hR J H A)
theorem IZ {m : aW} {A : List (List dA)} {s : kZ} (hR : e9 m A = true) (hc : cA m = 0) (Y : iE s) :
  ∃ b L, qo 10000 (lk m A s) = some (b, L) ∧
   ((bif (aA s.1 == 0) then some false else (aD s.1 0).bind fun x => bif x.1 != 0 then some false else (qcf_W5 10000 ((A, 0), (aJ m, s))).bind fun r => Sum.rec (fun u => some u.1) (fun v => Sum.rec (fun u => some u.1) (fun _ => some true) v) r) : Option Bool) = some b := by
 obtain ⟨q, O⟩ := II hR hc Y
 have hfl := Y.frames
 unfold qo
 show ∃ b L, ((qo_W0 10000 ((s.1, (s.1, (aA s.1, 0))), lk m A s)).bind fun r => _) = _ ∧ _
 by_cases Z : s.1.length = 0
 ·have H : s.1 = [] := yp Z
  have : qo_W0 10000 ((s.1, (s.1, (aA s.1, 0))), lk m A s) = some (Sum.inr (lk m A s)) := by
   refine bG (n := 9999) (B := fun s => qo_B0 10000 s.1.1 s.1.2.1 s.1.2.2.1 s.1.2.2.2 s.2) ?_
   show qo_B0 10000 s.1 s.1 (aA s.1) 0 (lk m A s) = _
   unfold qo_B0
   rw [H]; rfl
  refine ⟨false, lk m A s, by rw [this]; rfl, by rw [H]; rfl⟩
 ·obtain ⟨f0, hf0⟩ : ∃ f, s.1[0]? = some f := ⟨_, yd (by omega)⟩
  have hz : (aA s.1 == 0) = false := beq_eq_false_iff_ne.2 (by rw [aC]; omega)
  have U : aD s.1 0 = some f0 := (aE s.1 0).trans hf0
  rw [hz, U]
  have hL := FW (B := fun s => qo_B0 10000 s.1.1 s.1.2.1 s.1.2.2.1 s.1.2.2.2 s.2) (mk := fun (i : Nat) => ((s.1, (s.1, (aA s.1, (i : Int)))), lk m A s)) (q := fun k => q k && (!(k == 0) || f0.1 == 0))
   (found := fun i b => Sum.inl (b, (lk m A s, s.1.getD i f0))) (k := s.1.length) (fun i J => by
    obtain ⟨fr, h1, h2, _⟩ := O i (by omega)
    have K : s.1.getD i f0 = fr := by rw [yl, h1]; rfl
    rw [K]
    have M : (q i && (!(i == 0) || fr.1 == 0)) = (q i && (!(i == 0) || f0.1 == 0)) := by
     cases i with
     | zero => rw [hf0] at h1; rw [yb h1]
     | succ i => rfl
    exact (h2 J).trans (by rw [M]))
   (fun i J => by
    obtain ⟨fr, h1, _, h2, _⟩ := O i (by omega)
    have K : s.1.getD i f0 = fr := by rw [yl, h1]; rfl
    rw [K]
    have M : (q i && (!(i == 0) || fr.1 == 0)) = (q i && (!(i == 0) || f0.1 == 0)) := by
     cases i with
     | zero => rw [hf0] at h1; rw [yb h1]
     | succ i => rfl
    exact (h2 J).trans (by rw [M])) (s.1.length - 1) 0 10000 (by omega) (by omega)
  obtain ⟨i', b, e, M⟩ := hL
  refine ⟨b, lk m A s, by rw [show qo_W0 10000 ((s.1, (s.1, (aA s.1, 0))), lk m A s) = _ from e]; rfl, ?_⟩
  simp only [ye, ya]
  by_cases hf : f0.1 = 0
  ·rw [show (f0.1 != 0) = false from by rw [hf]; rfl, ye]
   have N : b = true ↔ ∀ t, 0 ≤ t → t < s.1.length → q t = true := M.trans ⟨fun h t a c => by have := h t a c; rw [yc] at this; exact this.1, fun h t a c => by rw [h t a c, hf]; simp⟩
   have h5 := HQ (B := fun s => qcf_B5 10000 s.1.1 s.1.2 s.2.1.1 s.2.1.2.1 s.2.1.2.2.1 s.2.1.2.2.2.1 s.2.1.2.2.2.2 s.2.2) (mk := fun (i : Nat) => ((A, (i : Int)), (aJ m, s))) (q := q)
    (bad := fun y => (∃ z, y = Sum.inl (false, z)) ∨ ∃ z, y = Sum.inr (Sum.inl (false, z))) (e := Sum.inr (Sum.inr (aJ m, s))) (k := s.1.length) (fun i J ht => by
     obtain ⟨fr, _, _, _, h1, _⟩ := O i J
     exact h1 ht) (fun i J ht => by
     obtain ⟨fr, _, _, _, _, h1⟩ := O i J
     rcases h1 ht with ⟨y, h⟩ | ⟨y, h⟩
     ·exact ⟨_, h, .inl ⟨y, rfl⟩⟩
     ·exact ⟨_, h, .inr ⟨y, rfl⟩⟩) (by
     show qcf_B5 10000 A (s.1.length : Int) m.recs m.funcs m.imps m.ints m.texts s = _
     unfold qcf_B5
     rw [aC, decide_eq_false (by omega), ye]) s.1.length 0 10000 (by omega) (by omega)
   rcases h5 with ⟨V, W⟩ | ⟨V, y, W, h8⟩
   ·rw [show qcf_W5 10000 ((A, 0), (aJ m, s)) = _ from W, N.2 V]; rfl
   ·have : b = false := by
     cases b with
     | false => rfl
     | true => exact absurd (N.1 rfl) V
    rw [show qcf_W5 10000 ((A, 0), (aJ m, s)) = _ from W, this]
    rcases h8 with ⟨z, rfl⟩ | ⟨z, rfl⟩ <;> rfl
  ·rw [show (f0.1 != 0) = true from bne_iff_ne.2 hf, yg]
   have : b = false := by
    cases b with
    | false => rfl
    | true =>
     have := M.1 rfl 0 (by omega) (by omega)
     rw [yc] at this
     exact absurd (beq_iff_eq.1 (by simpa using this.2)) hf
   rw [this]
theorem x8 {A B : Type} (a : List A) (b : List B) (ha : a.length ≤ 300) (hb : b.length ≤ 300) : (aI .i64 (aA a) (aA b) == 0) = (aA a == 0 && aA b == 0) := by
 rw [aC, aC, cN (by omega) (by omega)]
 cases h : a.length with
 | zero => simp
 | succ n =>
  rw [beq_eq_false_iff_ne.2 (by omega : ((n + 1 : Nat) : Int) + (b.length : Int) ≠ 0), beq_eq_false_iff_ne.2 (by omega : ((n + 1 : Nat) : Int) ≠ 0)]; rfl
theorem Jj {m : aW} {h : List (List dA)} {s : kZ} (hR : e9 m h = true) (hc : cA m = 0) (z : iE s) :
  ∃ b, qdn 10000 m.recs m.funcs m.imps m.ints m.texts h s = some b ∧ qcf 10000 m.recs m.funcs m.imps m.ints m.texts h s = some b := by
 have V := z.frames
 have J := z.heap
 have K := I9 10000 m h s z (by omega)
 have O := KR 10000 m h s z (by omega)
 have M := KI 10000 m h s z (by omega)
 obtain ⟨bf, L, hF, hG⟩ := IZ hR hc z
 -- the program's
 have hP : qdn 10000 m.recs m.funcs m.imps m.ints m.texts h s = some (bif !dD m s then false else bif decide ((s.1.length : Int) > 8) then false else bif s.2.2.2.2.2.1 != 0 then (aA s.1 == 0 && (aA s.2.1 == 0 && (s.2.2.2.2.2.2 == 0 || s.2.2.2.2.2.1 == 1))) else (s.2.2.2.2.2.2 == 0 && bf)) := by
  unfold qdn
  rw [show qt 10000 (m.recs, (m.funcs, (m.imps, (m.ints, (m.texts, (h, s)))))) = _ from K, ya, x8 _ _ V J, aC]
  simp only
  rw [hF]
  cases dD m s
  case false => rfl
  cases decide ((s.1.length : Int) > 8)
  case true => rfl
  cases s.2.2.2.2.2.1 != 0
  case false => cases s.2.2.2.2.2.2 == 0 <;> rfl
  cases ((s.1.length : Int) == 0) <;> cases (aA s.2.1 == 0) <;> cases s.2.2.2.2.2.2 == 0 <;> rfl
 refine ⟨_, hP, ?_⟩
 unfold qcf
 rw [show qcf_W0 10000 ((h, 0), ((m.recs, (m.funcs, (m.imps, (m.ints, m.texts)))), s)) = _ from O]
 -- numbers
 by_cases c1 : s.2.2.2.1 < 0
 ·rw [decide_eq_true c1]
  have : dD m s = false := by unfold dD qB; rw [decide_eq_false (by omega : ¬ s.2.2.2.1 ≥ 0)]; rfl
  rw [this]; rfl
 rw [decide_eq_false c1]
 by_cases c2 : s.2.2.2.1 > 65536
 ·rw [decide_eq_true c2]
  have : dD m s = false := by unfold dD qB; rw [decide_eq_false (by omega : ¬ s.2.2.2.1 ≤ 65536)]; simp
  rw [this]; rfl
 rw [decide_eq_false c2]
 by_cases W : s.2.2.2.2.1 < 0
 ·rw [decide_eq_true W]
  have : dD m s = false := by unfold dD qB; rw [decide_eq_false (by omega : ¬ s.2.2.2.2.1 ≥ 0)]; simp
  rw [this]; rfl
 rw [decide_eq_false W]
 by_cases c4 : s.2.2.2.2.1 > s.2.2.2.1
 ·rw [decide_eq_true c4]
  have : dD m s = false := by unfold dD qB; rw [decide_eq_false (by omega : ¬ s.2.2.2.2.1 ≤ s.2.2.2.1)]; simp
  rw [this]; rfl
 rw [decide_eq_false c4]
 by_cases c5 : s.2.2.2.2.2.1 < 0
 ·rw [decide_eq_true c5]
  have : dD m s = false := by unfold dD qB; rw [decide_eq_false (by omega : ¬ s.2.2.2.2.2.1 ≥ 0)]; simp
  rw [this]; rfl
 rw [decide_eq_false c5]
 by_cases Y : s.2.2.2.2.2.1 > 7
 ·rw [decide_eq_true Y]
  have : dD m s = false := by unfold dD qB; rw [decide_eq_false (by omega : ¬ s.2.2.2.2.2.1 ≤ 7)]; simp
  rw [this]; rfl
 rw [decide_eq_false Y, aC, aC]
 rw [decide_eq_false (by omega : ¬ (s.2.1.length : Int) > 4096)]
 by_cases Z : (s.2.2.1.length : Int) > 16
 ·rw [decide_eq_true Z]
  have : dD m s = false := by unfold dD qB; rw [decide_eq_false (by omega : ¬ (s.2.2.1.length : Int) ≤ 16)]; simp
  rw [this]; rfl
 rw [decide_eq_false Z, aC]
 have A : qB s = true := by
  unfold qB
  rw [decide_eq_true (by omega : s.2.2.2.1 ≥ 0), decide_eq_true (by omega : s.2.2.2.1 ≤ 65536), decide_eq_true (by omega : s.2.2.2.2.1 ≥ 0), decide_eq_true (by omega : s.2.2.2.2.1 ≤ s.2.2.2.1), decide_eq_true (by omega : s.2.2.2.2.2.1 ≥ 0), decide_eq_true (by omega : s.2.2.2.2.2.1 ≤ 7), decide_eq_true (by omega : (s.2.1.length : Int) ≤ 4096), decide_eq_true (by omega : (s.2.2.1.length : Int) ≤ 16)]; rfl
 have N : dD m s = (!(s.2.2.1.any s9) && s.2.1.all (qG m s)) := by unfold dD; rw [A, yu]
 rw [N]
 simp only [ye]
 cases decide ((s.1.length : Int) > 8)
 case true => cases s.2.2.1.any s9 <;> cases s.2.1.all (qG m s) <;> rfl
 cases s.2.2.1.any s9
 case true => rfl
 simp only [ye, ya]
 rcases M with ⟨U, H⟩ | ⟨U, o, H⟩
 ·show ((qcf_W2 10000 ((h, 0), (aJ m, s))).bind fun r => _) = _
  rw [H, U]
  simp only [ya, yw2, yu, yw, ye]
  cases he : s.2.2.2.2.2.1 != 0
  case true =>
   simp only [yg]
   change (bif (aA s.1 == 0) then (bif (aA s.2.1 == 0) then (bif (s.2.2.2.2.2.2 == 0) then some true else some (s.2.2.2.2.2.1 == 1)) else some false) else some false) = some (aA s.1 == 0 && (aA s.2.1 == 0 && (s.2.2.2.2.2.2 == 0 || s.2.2.2.2.2.1 == 1)))
   cases aA s.1 == 0 <;> cases aA s.2.1 == 0 <;> cases s.2.2.2.2.2.2 == 0 <;> rfl
  simp only [ye]
  rw [show (s.2.2.2.2.2.2 != 0) = !(s.2.2.2.2.2.2 == 0) from rfl]
  cases s.2.2.2.2.2.2 == 0
  case false => rfl
  simp only [yw, ye, yu]
  exact hG
 ·show ((qcf_W2 10000 ((h, 0), (aJ m, s))).bind fun r => _) = _
  rw [H, U]; rfl
end Sx
end
section
set_option maxRecDepth 100000
namespace Sx
open Go Go.Ab
theorem Ih {α : Type} (a : Option α) : Go.Ab.amb a a = a := by unfold Go.Ab.amb; rw [if_pos rfl]
theorem Oj : qbg 10000 [] = some [] := Ih _
theorem Oe : qbk 10000 [] = some [] := Ih _
def lJ : kZ := ([(0, (0, ([0], [])))], ([], ([], (100, (0, (0, 0))))))
theorem Pn : wK lJ := by
 refine ⟨by simp [lJ], fun x hx => ?_, fun x hx => ?_⟩
 ·have : x = (0, (0, ([0], []))) := by simpa [lJ] using hx
  subst this; simp
 ·simp [lJ] at hx
theorem N7 : qap 10000 lJ.1 = some lJ.1 := by
 have h : qap_B0q0 10000 lJ.1 1 0 [] = some (Sum.inl (Sum.inr ((lJ.1, (1, 1)), lJ.1))) := by
  unfold qap_B0q0
  rw [show decide ((0 : Int) < 1) = true from rfl, yg, show aD lJ.1 0 = some (0, (0, ([0], []))) from rfl, ya, Oj]
  rfl
 show ((qap_W0 10000 (Sum.inl ((lJ.1, (1, 0)), []))).bind fun r => _) = _
 have e : qap_W0 10000 (Sum.inl ((lJ.1, (1, 0)), [])) = some (Sum.inr lJ.1) := (bM (n := 9999) h).trans (bG (n := 9998) rfl)
 rw [e]; rfl
theorem N8 : qca 10000 ([] : List (List ((Int) × Int))) ((([] : List ((Int) × Int)), (1, (0, (((1, 0) :: ([] : List ((Int) × Int))), ((0, (0, 0)) :: ((26, (0, 0)) :: ([] : List ((Int) × (Int) × Int)))))))) :: ([] : List ((List ((Int) × Int)) × (Int) × (Int) × (List ((Int) × Int)) × List ((Int) × (Int) × Int)))) ([] : List ((List ((Int) × Int)) × (Int) × Int)) (7 :: ([] : List Int)) ([] : List ByteArray) 100 = some ((lJ.1, (100, (0, (0, 0)))), 0) := by kernel_rfl
theorem AT : qav 10000 = some true := by
 unfold qav
 rw [N8, ya]
 have J : qcp 10000 lJ.1 [] [] 100 0 0 0 = some lJ := by
  unfold qcp
  rw [N7, ya, Oe]; rfl
 have H := Oz (n := 10000) (a := lJ) (b := lJ) (Pn.fine (by omega))
 show ((qcp 10000 lJ.1 [] [] 100 0 0 0).bind fun h => (qdh 10000 lJ.1 [] [] 100 0 0 0 h.1 h.2.1 h.2.2.1 h.2.2.2.1 h.2.2.2.2.1 h.2.2.2.2.2.1 h.2.2.2.2.2.2).bind fun A => some A) = _
 rw [J, ya]
 exact (congrArg (fun z => Option.bind z fun r => some r) H).trans (by simp)
end Sx
end
section
set_option maxRecDepth 100000
namespace Sx
open Go Go.Ab
theorem vJ (m : aW) (A : Fe m) (z : List (List dA)) (s : kZ) (H : iE s) :
  ∃ b, stateTyped 10000 m.recs m.funcs m.imps m.ints m.texts z s = some b ∧ (e9 m z = false → b = false) ∧ (e9 m z = true → qcf 10000 m.recs m.funcs m.imps m.ints m.texts z s = some b) := by
 unfold stateTyped
 rw [qbq_eq m A z, ya]
 cases hR : e9 m z with
 | false => exact ⟨false, rfl, fun _ => rfl, fun h => by cases h⟩
 | true =>
  have J : cA m = 0 := jM (by unfold e9 at hR; rw [yc] at hR; exact hR.1)
  obtain ⟨b, h1, h2⟩ := Jj hR J H
  exact ⟨b, by rw [h1]; rfl, fun h => (by cases h), fun _ => h2⟩
theorem HF (m : aW) (A : Fe m) (hl : MJ m) (h : List (List dA)) (s : kZ) (H : MS s) (M : wK s → iE s) : g9 10000 m.recs m.funcs m.imps m.ints m.texts h s = some true := by
 unfold g9
 obtain ⟨x, e, hL⟩ := rF 10000 m hl (by omega)
 rw [e, ya, AT, aC]
 cases x with
 | false => rfl
 | true =>
  simp only [yw, ye]
  by_cases z : (h.length : Int) > 10
  ·rw [decide_eq_true z]; rfl
  ·rw [decide_eq_false z, ye]
   obtain ⟨y, K, J⟩ := OR 10000 s H (by omega)
   rw [show qci 10000 s.1 s.2.1 s.2.2.1 s.2.2.2.1 s.2.2.2.2.1 s.2.2.2.2.2.1 s.2.2.2.2.2.2 = _ from K, ya]
   cases y with
   | false => rfl
   | true =>
    obtain ⟨b, h1, h2, N⟩ := vJ m A h s (M (J rfl))
    simp only [yw, ye]
    rw [H0 m A (hL rfl) h, ya, h1]
    cases hR : e9 m h with
    | false => rw [h2 hR]; rfl
    | true =>
     rw [N hR]
     show some (b == b) = _
     simp
end Sx
end
section
namespace Sx
open Go Go.Ab
abbrev QI : Ty := .cons (.int .i64) (.int .i64)
abbrev Rc : Ty := .cons (.int .i64) (.cons (.int .i64) (.int .i64))
end Sx
end
section
namespace Sx
open Go Go.Ab
abbrev GF : Ty := .sl true QI
abbrev Q2 : Ty := .cons GF (.cons (.int .i64) (.cons (.int .i64) (.cons GF (.sl true Rc))))
abbrev QO : Ty := .cons GF (.cons (.int .i64) (.int .i64))
def NW : Sh := .agg (.cons (.sl true false GF) (.cons (.sl true true Q2) (.cons (.sl true true QO) (.cons (.sl true false (.int .u64)) (.cons (.sl true false .str) .nil)))))
abbrev MF := List (List cQ) × List iT × List Mv × List Int × List ByteArray
def HD (d : MF) : aW := ⟨d.1, d.2.1, d.2.2.1, d.2.2.2.1, d.2.2.2.2⟩
theorem N4 {t : cQ} (h : kU QI t) : PL t := ⟨Av h.1, Av h.2⟩
theorem kF {l : List cQ} (h : kU GF l) : Jy l ∧ l.length ≤ 140737488351232 := ⟨fun t ht => N4 (h.2 t ht), h.1⟩
theorem sU {d : MF} (h : lY NW d) : Fe (HD d) ∧ MJ (HD d) := by
 obtain ⟨h1, h2, h3, h4, h5, _⟩ : kU (.sl false GF) d.1 ∧ kU (.sl true Q2) d.2.1 ∧ kU (.sl true QO) d.2.2.1 ∧ kU (.sl false (.int .u64)) d.2.2.2.1 ∧ kU (.sl false .str) d.2.2.2.2 ∧ True := h
 obtain ⟨l1, O⟩ := h1
 obtain ⟨W, e2⟩ := h2
 obtain ⟨l3, U⟩ := h3
 obtain ⟨l4, e4⟩ := h4
 obtain ⟨Z, V⟩ := h5
 have N : ∀ f ∈ d.2.1, kU GF f.1 ∧ kU (.int .i64) f.2.1 ∧ kU (.int .i64) f.2.2.1 ∧ kU GF f.2.2.2.1 ∧ f.2.2.2.2.length ≤ reachBytes := fun f hf => by
  obtain ⟨z, A, H, J, K⟩ := e2 f hf
  exact ⟨z, A, H, J, K.1⟩
 have M : ∀ f ∈ d.2.2.1, kU GF f.1 ∧ kU (.int .i64) f.2.1 ∧ kU (.int .i64) f.2.2 := U
 refine ⟨⟨fun l hl => (kF (O l hl)).1, fun f hf => ?_, fun f hf => ?_, fun v Y => Hm (e4 v Y)⟩, ⟨l1, W, l3, l4, Z, fun l hl => (kF (O l hl)).2, fun f hf => ?_, fun f hf => ?_, V⟩⟩
 ·obtain ⟨z, A, H, J, K⟩ := N f hf
  exact ⟨(kF z).1, ⟨Av A, Av H⟩, (kF J).1⟩
 ·obtain ⟨z, A, H⟩ := M f hf
  exact ⟨(kF z).1, ⟨Av A, Av H⟩⟩
 ·obtain ⟨z, A, H, J, K⟩ := N f hf
  exact ⟨(kF z).2, (kF J).2, K⟩
 ·exact (kF (M f hf).1).2
end Sx
end
section
namespace Sx
open Go Go.Ab
abbrev zS : Ty := .sl false (.int .u64)
abbrev QJ : Ty := .cons (.int .i64) (.cons (.int .i64) (.cons zS zS))
abbrev Qr : Ty := .cons (.int .i64) (.cons (.int .i64) (.cons zS (.sl false (.int .u8))))
abbrev P3 : Ty := .cons (.int .i64) (.cons (.int .u64) .bool)
def Qc : Sh := .agg (.cons (.sl true true QJ) (.cons (.sl true true Qr) (.cons (.sl true true P3) (.cons (.int .i64) (.cons (.int .i64) (.cons (.int .i64) (.cons (.int .u64) .nil)))))))
theorem N0 {d : kZ} (h : lY Qc d) : MS d := by
 obtain ⟨⟨l1, e1⟩, ⟨l2, e2⟩, ⟨l3, e3⟩, q, u, e, v, _⟩ : kU (.sl true QJ) d.1 ∧ kU (.sl true Qr) d.2.1 ∧ kU (.sl true P3) d.2.2.1 ∧ kU (.int .i64) d.2.2.2.1 ∧ kU (.int .i64) d.2.2.2.2.1 ∧ kU (.int .i64) d.2.2.2.2.2.1 ∧ kU (.int .u64) d.2.2.2.2.2.2 ∧ True := h
 have z : ∀ x ∈ d.1, kU (.int .i64) x.1 ∧ kU (.int .i64) x.2.1 ∧ kU zS x.2.2.1 ∧ kU zS x.2.2.2 := e1
 have A : ∀ x ∈ d.2.1, kU (.int .i64) x.1 ∧ kU (.int .i64) x.2.1 ∧ kU zS x.2.2.1 ∧ kU (.sl false (.int .u8)) x.2.2.2 := e2
 refine ⟨l1, l2, l3, fun x hx => ?_, fun x hx => ?_⟩
 ·obtain ⟨_, _, ⟨c, _⟩, ⟨k, _⟩⟩ := z x hx
  exact ⟨c, k⟩
 ·obtain ⟨_, _, ⟨c, _⟩, ⟨k, _⟩⟩ := A x hx
  exact ⟨c, k⟩
end Sx
end
section
namespace Sx
open Go Go.Ab
abbrev Ri : Ty := .cons .bool (.sl true QI)
def JK : Sh := .sl true false (.sl true Ri)
theorem N6 {d : kZ} (h : lY Qc d) : wK d → iE d := fun H => by
 obtain ⟨⟨_, e1⟩, ⟨_, e2⟩, _⟩ : kU (.sl true QJ) d.1 ∧ kU (.sl true Qr) d.2.1 ∧ _ := h
 have A : ∀ x ∈ d.1, kU (.int .i64) x.1 ∧ kU (.int .i64) x.2.1 ∧ kU zS x.2.2.1 ∧ kU zS x.2.2.2 := e1
 have J : ∀ x ∈ d.2.1, kU (.int .i64) x.1 ∧ kU (.int .i64) x.2.1 ∧ kU zS x.2.2.1 ∧ kU (.sl false (.int .u8)) x.2.2.2 := e2
 refine ⟨H, fun x hx => ?_, fun x hx => ?_⟩
 ·obtain ⟨_, _, ⟨_, a⟩, ⟨_, b⟩⟩ := A x hx
  exact ⟨fun v z => Hm (a v z), fun v z => Hm (b v z)⟩
 ·obtain ⟨_, _, ⟨_, a⟩, _⟩ := J x hx
  exact fun v z => Hm (a v z)
theorem IV (d : MF × List (List dA) × kZ) (hf : lY (.cons NW (.cons JK (.cons Qc .nil))) d) : ∃ n, g9 n d.1.1 d.1.2.1 d.1.2.2.1 d.1.2.2.2.1 d.1.2.2.2.2 d.2.1 d.2.2 = some true := by
 obtain ⟨h1, _, h3, _⟩ : lY NW d.1 ∧ lY JK d.2.1 ∧ lY Qc d.2.2 ∧ True := hf
 exact ⟨10000, HF (HD d.1) (sU (d := d.1) h1).1 (sU (d := d.1) h1).2 _ _ (N0 h3) (N6 h3)⟩
end Sx
end
