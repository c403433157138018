/- Plain laws. -/
import Derived.Test.YtdlbbdbbpoggfaaGreatDoorLaw1
import Derived.Test.YtdlbbdbbpoggfaaGreatDoorLib31
set_option linter.unusedVariables false
set_option linter.unusedSimpArgs false
section
namespace Sx
open Go Go.Ab
theorem Ld {m : aW} {f : iT} {sh : List dA} {pc : Nat} {x : dA} {i : B0} (hx : sh[pc]? = some x) (z : f.2.2.2.2[pc]? = some i) (h8 : x.2.length ≤ 8)
  (h : x.1 = true → (eO m f i (pc : Int) x.2).2.2 = 0 ∧ ∀ t ∈ (eO m f i (pc : Int) x.2).2.1, dM sh (eO m f i (pc : Int) x.2).1 t = true) : kO m f sh pc = true := by
 unfold kO
 rw [hx, z]
 show By m f sh i (pc : Int) x = true
 unfold By
 rw [decide_eq_false (by omega), yx2, yu]
 cases h1 : x.1 with
 | false => rfl
 | true =>
  rw [yw, yl3, yc, yx, beq_iff_eq]
  exact h h1
theorem N6 (m : aW) {z : Nat} {f : iT} {L : Nat} {mp : List dA} (hc : b9 m = 0) (hf : m.funcs[z]? = some f) (hLc : L = f.2.2.2.2.length) (O : L ≤ 64) (hI : q6 L mp) (N : Bool) (A : List (List dA)) (pc : Nat) (hp : pc < L) :
  (∃ J : Bool × List dA, qdp_B4 10000 (z : Int) N (pc : Int) m.recs m.funcs m.imps m.ints m.texts A mp = some (Sum.inl (((z : Int), (J.1, ((pc + 1 : Nat) : Int))), (aJ m, (A, J.2)))) ∧ q6 L J.2 ∧ qE N mp J.1 J.2 ∧
   (J.2 = mp → kO m f mp pc = true)) ∨
  ∃ h, qdp_B4 10000 (z : Int) N (pc : Int) m.recs m.funcs m.imps m.ints m.texts A mp = some (Sum.inr (Sum.inl (([], false), (aJ m, (A, h))))) := by
 have Y : pc < mp.length := by rw [hI.len]; exact hp
 obtain ⟨x, hx⟩ : ∃ x, mp[pc]? = some x := ⟨_, yd Y⟩
 obtain ⟨i, hi⟩ : ∃ i, f.2.2.2.2[pc]? = some i := ⟨_, yd (by omega)⟩
 have H := hI.all x (yj hx)
 unfold qdp_B4
 rw [aC, decide_eq_true (by omega), yg, decide_eq_true (by omega), yd2, yg, yb1, hx, ya]
 cases W : x.1 with
 | false =>
  refine .inl ⟨(N, mp), ?_, hI, qE.refl _ _, fun _ => Ld hx hi H.2 fun e => by rw [W] at e; cases e⟩
  rw [yx2, yg, cK (by omega) (by omega)]
  rfl
 | true =>
  obtain ⟨_, hr, _, q1, q2, q3⟩ := z3 m z pc f i x.2 hc hf hi (by omega)
  obtain ⟨w1, w2⟩ := MP hc hf hi (by omega) H.1
  rw [yw, ye, yg, ya, hr, ya]
  by_cases Z : (eO m f i (pc : Int) x.2).2.2 = 0
  ·have M : ((eO m f i (pc : Int) x.2).2.2 != 0) = false := by rw [Z]; rfl
   rw [M, ye]
   obtain ⟨y, hy, V⟩ := On m hI (z : Int) (pc : Int) N A _ _ w1 w2 (by rw [hLc]; exact q3) O (by omega)
   show (∃ J : Bool × List dA, ((qdp_W6 10000 (((z : Int), (N, ((pc : Int), ((eO m f i (pc : Int) x.2).1, ((eO m f i (pc : Int) x.2).2.1, 0))))), (aJ m, (A, mp)))).bind fun K => _) = _ ∧ _) ∨ ∃ h, ((qdp_W6 10000 (((z : Int), (N, ((pc : Int), ((eO m f i (pc : Int) x.2).1, ((eO m f i (pc : Int) x.2).2.1, 0))))), (aJ m, (A, mp)))).bind fun K => _) = _
   rw [hy, ya]
   rcases V with ⟨h, rfl⟩ | ⟨U, h, rfl, j1, j2, j3⟩
   ·exact .inr ⟨h, rfl⟩
   ·refine .inl ⟨(U, h), ?_, j1, j2, fun e => Ld hx hi H.2 fun _ => ⟨Z, ?_⟩⟩
    ·show some (Sum.inl (((z : Int), (U, aI .i64 (pc : Int) 1)), (aJ m, (A, h)))) = _
     rw [cK (by omega) (by omega)]
     rfl
    ·have e' : h = mp := e
     rw [e'] at j3
     exact j3
  ·have M : ((eO m f i (pc : Int) x.2).2.2 != 0) = true := by simpa using Z
   rw [M, yg]
   exact .inr ⟨mp, rfl⟩
theorem N2 (m : aW) {J : Nat} {f : iT} {L : Nat} {mp : List dA} (hc : b9 m = 0) (hf : m.funcs[J]? = some f) (hLc : L = f.2.2.2.2.length) (K : L ≤ 64) (hI : q6 L mp) (A : List (List dA)) :
  ∃ y, qdp_W4 10000 (((J : Int), (false, 0)), (aJ m, (A, mp))) = some y ∧ ((∃ z, y = Sum.inl (([], false), (aJ m, (A, z)))) ∨
   ∃ H z, y = Sum.inr (((J : Int), H), (aJ m, (A, z))) ∧ q6 L z ∧ qE false mp H z ∧ (H = false → ∀ pc, pc < L → kO m f z pc = true)) := by
 have keep : ∀ {a : Bool} {l : List dA}, qE false mp a l → a = false → l = mp := fun h e => by
  rcases h.or with ⟨_, h⟩ | ⟨h, _⟩
  ·exact h
  ·rw [e] at h; cases h
 refine dL (xs := List.range L) (mk := fun i (a : Bool × List dA) => (((J : Int), (a.1, (i : Int))), (aJ m, (A, a.2)))) (I := fun i a => q6 L a.2 ∧ qE false mp a.1 a.2 ∧ (a.1 = false → ∀ pc, pc < i → kO m f mp pc = true)) ?_ ?_ L 0 10000 (false, mp) (by rw [yj2]; omega) ⟨hI, qE.refl _ _, fun _ k hk => by omega⟩ (by omega)
 ·rintro i ⟨c, l⟩ t Z ⟨O, M, Y⟩
  have W : i < L := by have := (yh.1 Z).1; rwa [yj2] at this
  rcases N6 m hc hf hLc K O c A i W with ⟨a', h1, h2, h3, h4⟩ | ⟨z, h⟩
  ·refine .inl ⟨a', h1, h2, M.trans h3, fun e pc N => ?_⟩
   have V : c = false ∧ a'.2 = l := by
    rcases h3.or with ⟨h, h'⟩ | ⟨h, _⟩
    ·exact ⟨h.symm.trans e, h'⟩
    ·rw [e] at h; cases h
   have el := keep M V.1
   by_cases U : pc = i
   ·subst U
    have := h4 V.2
    have el' : l = mp := el
    rwa [show (c, l).2 = l from rfl, el'] at this
   ·exact Y V.1 pc (by omega)
  ·exact .inr ⟨_, h, .inl ⟨z, rfl⟩⟩
 ·rintro ⟨c, l⟩ ⟨O, M, Y⟩
  refine ⟨Sum.inr (((J : Int), c), (aJ m, (A, l))), ?_, .inr ⟨c, l, rfl, O, M, fun e pc N => ?_⟩⟩
  ·rw [yj2]
   show qdp_B4 10000 (J : Int) c (L : Int) m.recs m.funcs m.imps m.ints m.texts A l = _
   unfold qdp_B4
   rw [aC, decide_eq_false (by have := O.len; simp only at this; omega), ye]
  ·have el : l = mp := keep M e
   rw [el]
   exact Y e pc (by rw [yj2]; exact N)
theorem O3 (m : aW) {N : Nat} {f : iT} {L : Nat} {mp : List dA} (hc : b9 m = 0) (hf : m.funcs[N]? = some f) (Z : L = f.2.2.2.2.length) (O : L ≤ 64) (hI : q6 L mp) (J : List (List dA)) :
  ∃ y, qdp_W2 10000 (((N : Int), true), (aJ m, (J, mp))) = some y ∧ ((∃ z, y = Sum.inl (([], false), (aJ m, (J, z)))) ∨
   ∃ z, y = Sum.inr ((N : Int), (aJ m, (J, z))) ∧ q6 L z ∧ ∀ pc, pc < L → kO m f z pc = true) := by
 refine Cq (I := fun s => ∃ (c : Bool) (l : List dA), s = (((N : Int), c), (aJ m, (J, l))) ∧ q6 L l ∧ (c = false → ∀ pc, pc < L → kO m f l pc = true)) (m := fun s => if s.1.2 = true then 1 + (25 * L - mu s.2.2.2) else 0) ?_ 10000 _ ⟨true, mp, rfl, hI, fun e => by cases e⟩ ?_
 ·rintro s ⟨c, l, rfl, i1, i2⟩
  cases c with
  | false => exact .inr ⟨_, rfl, .inr ⟨l, rfl, i1, i2 rfl⟩⟩
  | true =>
   obtain ⟨y, hy, U⟩ := N2 m hc hf Z O i1 J
   have Y : qdp_B2 10000 (N : Int) true m.recs m.funcs m.imps m.ints m.texts J l = ((qdp_W4 10000 (((N : Int), (false, 0)), (aJ m, (J, l)))).bind fun K => Sum.rec (fun A => some (Sum.inr (Sum.inl ((A.1.1, A.1.2), (A.2.1, (A.2.2.1, A.2.2.2)))))) (fun H => some (Sum.inl ((H.1.1, H.1.2), (H.2.1, (H.2.2.1, H.2.2.2))))) K) := rfl
   rw [hy] at Y
   rcases U with ⟨z, rfl⟩ | ⟨M, z, rfl, V, j2, j3⟩
   ·exact .inr ⟨_, Y, .inl ⟨z, rfl⟩⟩
   ·refine .inl ⟨_, Y, ⟨M, z, rfl, V, j3⟩, ?_⟩
    have W := O8 z V.all
    rw [V.len] at W
    rcases j2.or with ⟨h, _⟩ | ⟨h, h'⟩
    ·show (if M = true then 1 + (25 * L - mu z) else 0) < 1 + (25 * L - mu l)
     rw [h, if_neg (by decide)]; omega
    ·show (if M = true then 1 + (25 * L - mu z) else 0) < 1 + (25 * L - mu l)
     rw [if_pos h]; omega
 ·show (if true = true then 1 + (25 * L - mu mp) else 0) < 10000
  rw [if_pos rfl]; omega
def w4 (m : aW) (f : iT) (sh : List dA) : Prop := q6 f.2.2.2.2.length sh ∧ ∀ pc, pc < f.2.2.2.2.length → kO m f sh pc = true
theorem Kr {m : aW} {f : iT} {sh : List dA} (h : w4 m f sh) : nP m f sh = true := by
 unfold nP
 rw [yc, yc, decide_eq_true_eq, yx]
 refine ⟨⟨h.1.len, ?_⟩, fun k z => h.2 k (by rw [← h.1.len]; exact List.mem_range.1 z)⟩
 have := h.1.fst
 match sh, this with
 | [], h => cases h
 | x :: r, h =>
  obtain rfl : x = (true, []) := by simpa using h
  rfl
theorem JN {L : Nat} (hL : 1 ≤ L) : q6 L ((List.replicate L ((false, []) : dA)).set 0 (true, [])) := ⟨by simp, by rw [yf1 (by simp; omega)], fun x hx => by
 rcases ym2 hx with h | rfl
 ·rw [List.eq_of_mem_replicate h]; exact ⟨IZ, by simp⟩
 ·exact ⟨IZ, by simp⟩⟩
theorem Kz (m : aW) (hm : mI m = true) : ∃ H ok, qdp 10000 m.recs m.funcs m.imps m.ints m.texts = some (H, ok) ∧
  ((ok = false ∧ H = []) ∨ (ok = true ∧ H.length = m.funcs.length ∧ ∀ (k : Nat) (f : iT), m.funcs[k]? = some f → ∃ sh, H[k]? = some sh ∧ w4 m f sh)) := by
 have hc := jS hm
 have hfit := (cJ hc).1
 have hfs := hfit
 simp only [cN, yc, decide_eq_true_eq, yx] at hfs
 obtain ⟨_, _, _, hf8, hff, _⟩ := hfs
 have W : ∃ y, qdp_W0 10000 (0, (aJ m, ([] : List (List dA)))) = some y ∧ ((∃ (A : List (List dA)) (l : List dA), y = Sum.inl (([], false), (aJ m, (A, l)))) ∨
   ∃ A : List (List dA), y = Sum.inr (aJ m, A) ∧ A.length = m.funcs.length ∧ ∀ (k : Nat) (f : iT), m.funcs[k]? = some f → ∃ sh, A[k]? = some sh ∧ w4 m f sh) := by
  refine dL (xs := m.funcs) (mk := fun i (a : List (List dA)) => ((i : Int), (aJ m, a))) (I := fun i a => a.length = i ∧ ∀ (k : Nat) (f : iT), k < i → m.funcs[k]? = some f → ∃ sh, a[k]? = some sh ∧ w4 m f sh) ?_ ?_ m.funcs.length 0 10000 [] (by omega) ⟨rfl, fun k f hk => by omega⟩ (by omega)
  ·intro i a f M ⟨i1, i2⟩
   have hi : i < m.funcs.length := (yh.1 M).1
   have hfm := hff f (yj M)
   simp only [oF, yc, decide_eq_true_eq] at hfm
   obtain ⟨_, _, _, hc1, hc64, _⟩ := hfm
   have hst := JN hc1
   obtain ⟨y, hy, V⟩ := O3 m hc M rfl hc64 hst a
   have N : qdp_B0 10000 (i : Int) m.recs m.funcs m.imps m.ints m.texts a = ((qdp_W2 10000 (((i : Int), true), (aJ m, (a, (List.replicate f.2.2.2.2.length ((false, []) : dA)).set 0 (true, []))))).bind fun U =>
     Sum.rec (fun z => some (Sum.inr (Sum.inl ((z.1.1, z.1.2), (z.2.1, (z.2.2.1, z.2.2.2)))))) (fun h => bif Nat.ble (List.length (h.2.2.1 ++ [h.2.2.2])) 4294967296 then some (Sum.inl ((aI .i64 h.1 1), (h.2.1, h.2.2.1 ++ [h.2.2.2]))) else none) U) := by
    unfold qdp_B0
    rw [aC, decide_eq_true (by omega), yg, aE, M, ya, aC, yb1, beq_self_eq_true, decide_eq_true (by omega), yw2 (by omega), yd2, yd2, yg,
     decide_eq_true (by rw [yg3]; omega), yg, yk2, if_pos (by omega), ya]
   rcases V with ⟨J, rfl⟩ | ⟨J, rfl, j1, j2⟩
   ·exact .inr ⟨_, N.trans (by rw [hy]; rfl), .inl ⟨a, J, rfl⟩⟩
   ·refine .inl ⟨a ++ [J], ?_, by simp [i1], fun k g hk hg => ?_⟩
    ·refine N.trans ?_
     rw [hy, ya]
     show (bif Nat.ble (List.length (a ++ [J])) 4294967296 then some (Sum.inl ((aI .i64 (i : Int) 1), (aJ m, a ++ [J]))) else none) = _
     rw [yw2 (by simp; omega), yg, cK (by omega) (by omega)]
     rfl
    ·by_cases hki : k = i
     ·subst hki
      rw [M] at hg
      obtain rfl := yb hg
      exact ⟨J, by rw [← i1]; simp, j1, j2⟩
     ·obtain ⟨sh, h1, h2⟩ := i2 k g (by omega) hg
      exact ⟨sh, by rw [yq (yh.1 h1).1]; exact h1, h2⟩
  ·intro a ⟨i1, i2⟩
   refine ⟨Sum.inr (aJ m, a), ?_, .inr ⟨a, rfl, i1, fun k f hk => i2 k f (yh.1 hk).1 hk⟩⟩
   show qdp_B0 10000 (m.funcs.length : Int) m.recs m.funcs m.imps m.ints m.texts a = _
   unfold qdp_B0
   rw [aC, decide_eq_false (by omega), ye]
 obtain ⟨y, hy, V⟩ := W
 have K : qdp 10000 m.recs m.funcs m.imps m.ints m.texts = (qdp_W0 10000 (0, (aJ m, ([] : List (List dA))))).bind fun Y => Sum.rec (fun O => some (O.1.1, O.1.2)) (fun Z => some (Z.2, true)) Y := rfl
 rw [hy] at K
 rcases V with ⟨A, l, rfl⟩ | ⟨A, rfl, h1, h2⟩
 ·exact ⟨_, _, K, .inl ⟨rfl, rfl⟩⟩
 ·exact ⟨_, _, K, .inr ⟨rfl, h1, h2⟩⟩
theorem E6 {m : aW} (hm : mI m = true) {z : List (List dA)} (hl : z.length = m.funcs.length) (h : ∀ (k : Nat) (f : iT), m.funcs[k]? = some f → ∃ sh, z[k]? = some sh ∧ w4 m f sh) : fD m z = true := by
 unfold fD
 rw [hm, yu, decide_eq_true hl, yu, yx]
 intro k H
 have A : k < m.funcs.length := by rw [← hl]; exact List.mem_range.1 H
 obtain ⟨sh, h1, h2⟩ := h k _ (yd A)
 rw [Hp h1 (yd A)]
 exact Kr h2
end Sx
end
section
namespace Sx
open Go Go.Ab
theorem M1 (m : aW) (z : List (List dA)) (H : Nat) (sh : List dA) (j : Nat) (R : FR) (hl : R.1.length ≤ 5000) (ht : ∀ t ∈ R.2.1, 0 ≤ t ∧ t < (sh.length : Int)) (M : R.2.1.length ≤ 10) :
  qca_W4 10000 ((z, ((H : Int), (sh, ((j : Int), (R.1, (R.2.1, 0)))))), aJ m) = some (if R.2.1.all (dM sh R.1) = true then Sum.inr ((z, ((H : Int), (sh, (j : Int)))), aJ m) else Sum.inl (false, aJ m)) := by
 have h := bA (xs := R.2.1) (B := fun s => qca_B4 10000 s.1.1 s.1.2.1 s.1.2.2.1 s.1.2.2.2.1 s.1.2.2.2.2.1 s.1.2.2.2.2.2.1 s.1.2.2.2.2.2.2 s.2.1 s.2.2.1 s.2.2.2.1 s.2.2.2.2.1 s.2.2.2.2.2) (mk := fun (k : Nat) => ((z, ((H : Int), (sh, ((j : Int), (R.1, (R.2.1, (k : Int))))))), aJ m))
  (p := fun t => !dM sh R.1 t) (found := fun k t => Sum.inl (false, aJ m)) (e := Sum.inr ((z, ((H : Int), (sh, (j : Int)))), aJ m)) (fun k t hx => ?_) ?_ R.2.1.length 0 10000 (by omega) (by omega)
 ·rw [yl1] at h
  have A : R.2.1.all (dM sh R.1) = !R.2.1.any (fun t => !dM sh R.1 t) := by rw [yr2]
  rcases h with ⟨h1, _, _, _, _, h2⟩ | ⟨h1, h2⟩
  ·rw [A, h1]; exact h2
  ·rw [A, h1]; exact h2
 ·have hi := cO hx
  obtain ⟨x, K⟩ := lC (l := sh) (ht t (yj hx)).1 (ht t (yj hx)).2
  show qca_B4 10000 z (H : Int) sh (j : Int) R.1 R.2.1 (k : Int) m.recs m.funcs m.imps m.ints m.texts = _
  have J : dM sh R.1 t = (x.1 && eB R.1 x.2) := by unfold dM; rw [K]
  rw [J]
  unfold qca_B4
  rw [aC, decide_eq_true (by omega), yg, aE, hx, ya, K, ya, ya, K, ya, I8 10000 R.1 x.2 hl (by omega), ya, aH (by omega)]
  cases x.1 <;> cases eB R.1 x.2 <;> rfl
 ·show qca_B4 10000 z (H : Int) sh (j : Int) R.1 R.2.1 (R.2.1.length : Int) m.recs m.funcs m.imps m.ints m.texts = _
  unfold qca_B4
  rw [aC, decide_eq_false (by omega), ye]
theorem MV (m : aW) (A : Nat) (f : iT) (sh : List dA) (z : List (List dA)) (N : b9 m = 0) (hf : m.funcs[A]? = some f) (hl : sh.length = f.2.2.2.2.length) (hs : sh.length ≤ 200) :
  qca_W2 10000 ((z, ((A : Int), (sh, 0))), aJ m) = some (if (List.range sh.length).all (kO m f sh) = true then Sum.inr ((z, (A : Int)), aJ m) else Sum.inl (false, aJ m)) := by
 have h := oX (B := fun s => qca_B2 10000 s.1.1 s.1.2.1 s.1.2.2.1 s.1.2.2.2 s.2.1 s.2.2.1 s.2.2.2.1 s.2.2.2.2.1 s.2.2.2.2.2) (mk := fun (j : Nat) => ((z, ((A : Int), (sh, (j : Int)))), aJ m))
  (p := kO m f sh) (found := fun j => Sum.inl (false, aJ m)) (e := Sum.inr ((z, (A : Int)), aJ m)) sh.length (fun j O => ?_) ?_ 10000 (by omega)
 ·rcases h with ⟨h1, h2⟩ | ⟨h1, j, _, h2⟩
  ·rw [h1, if_pos rfl]; exact h2
  ·rw [h1, if_neg (by simp)]; exact h2
 ·show qca_B2 10000 z (A : Int) sh (j : Int) m.recs m.funcs m.imps m.ints m.texts = _
  have hx : sh[j]? = some sh[j] := yd O
  have K : f.2.2.2.2[j]? = some (f.2.2.2.2[j]'(by omega)) := yd _
  generalize sh[j] = x at hx
  generalize f.2.2.2.2[j]'(by omega) = i at K
  have J : kO m f sh j = By m f sh i (j : Int) x := by unfold kO; rw [hx, K]
  rw [J]
  unfold qca_B2 By
  rw [aC, decide_eq_true (by omega), yg, aE, hx, ya, aC]
  by_cases M : x.2.length > 8
  ·rw [decide_eq_true (by omega : (x.2.length : Int) > 8), decide_eq_true M]; rfl
  ·rw [decide_eq_false (by omega : ¬ (x.2.length : Int) > 8), decide_eq_false M]
   obtain ⟨_, V, _, W, U, ht⟩ := z3 m A j f i x.2 N hf K (by omega)
   simp only [ye, ya]
   rw [V]
   generalize eO m f i (j : Int) x.2 = R at W U ht ⊢
   cases hb : x.1 with
   | false =>
    rw [aH (by omega)]
    rfl
   | true =>
    simp only [yw, ye, ya, yx2, yu, yl3]
    have hW := M1 m z A sh j R (by omega) (by rw [hl]; exact ht) (by omega)
    rw [show qca_W4 10000 ((z, ((A : Int), (sh, ((j : Int), (R.1, (R.2.1, 0)))))), (m.recs, (m.funcs, (m.imps, (m.ints, m.texts))))) = _ from hW]
    by_cases H : R.2.2 = 0
    ·rw [show (R.2.2 != 0) = false from by rw [H]; rfl, show (R.2.2 == 0) = true from by rw [H]; rfl]
     simp only [ye, yu]
     cases R.2.1.all (dM sh R.1) with
     | false => rfl
     | true =>
      show some (Sum.inl ((z, ((A : Int), (sh, aI .i64 (j : Int) 1))), aJ m)) = _
      rw [aH (by omega)]; rfl
    ·rw [show (R.2.2 != 0) = true from bne_iff_ne.2 H, show (R.2.2 == 0) = false from beq_eq_false_iff_ne.2 H]; rfl
 ·show qca_B2 10000 z (A : Int) sh (sh.length : Int) m.recs m.funcs m.imps m.ints m.texts = _
  unfold qca_B2
  rw [aC, decide_eq_false (by omega), ye]
theorem HY (m : aW) (V : Fh m) (hL : oY m) (z : List (List dA)) : qca 10000 m.recs m.funcs m.imps m.ints m.texts z = some (fD m z) := by
 unfold qca fD
 rw [v3 10000 m V hL (by omega), ya]
 cases hM : mI m with
 | false => rfl
 | true =>
  have M := jS hM
  obtain ⟨k1, _, _, O, _⟩ := cX (cJ M).1
  simp only [yw, ye, yu]
  rw [vI]
  by_cases hl : z.length = m.funcs.length
  ·rw [decide_eq_true hl]
   simp only [yw, ye, yu]
   have h := oX (B := fun s => qca_B0 10000 s.1.1 s.1.2 s.2.1 s.2.2.1 s.2.2.2.1 s.2.2.2.2.1 s.2.2.2.2.2) (mk := fun (j : Nat) => ((z, (j : Int)), aJ m))
    (p := Qb m z) (found := fun j => Sum.inl (false, aJ m)) (e := Sum.inr (aJ m)) z.length (fun j U => ?_) ?_ 10000 (by omega)
   ·rcases h with ⟨h1, h2⟩ | ⟨h1, j, _, h2⟩
    ·rw [h1, show qca_W0 10000 ((z, 0), _) = _ from h2]; rfl
    ·rw [h1, show qca_W0 10000 ((z, 0), _) = _ from h2]; rfl
   ·show qca_B0 10000 z (j : Int) m.recs m.funcs m.imps m.ints m.texts = _
    have K : z[j]? = some z[j] := yd U
    have H : m.funcs[j]? = some (m.funcs[j]'(by omega)) := yd _
    generalize z[j] = sh at K
    generalize m.funcs[j]'(by omega) = f at H
    unfold qca_B0
    rw [Hp K H, aC, decide_eq_true (by omega), yg, aE, K, ya, aE, H, ya, vI]
    show _ = (if nP m f sh = true then some (Sum.inl ((z, ((j + 1 : Nat) : Int)), aJ m)) else some (Sum.inr (Sum.inl (false, aJ m))))
    by_cases A : sh.length = f.2.2.2.2.length
    ·have hk := O f (yj H)
     rw [decide_eq_true A, yw, ye]
     match sh, A, K with
     | [], A, _ => exfalso; simp at A; omega
     | x :: sh, A, K =>
      rw [show aD (x :: sh) 0 = some x from rfl, ya, ya, aC]
      have hW := MV m j f (x :: sh) z M H A (by omega)
      rw [show qca_W2 10000 ((z, ((j : Int), (x :: sh, 0))), (m.recs, (m.funcs, (m.imps, (m.ints, m.texts))))) = _ from hW]
      have J : nP m f (x :: sh) = ((x.1 && !decide (x.2.length > 0)) && (List.range (x :: sh).length).all (kO m f (x :: sh))) := by
       unfold nP
       rw [decide_eq_true A, yu]
      rw [J]
      cases hb : x.1 with
      | false => rfl
      | true =>
       by_cases N : x.2.length > 0
       ·rw [decide_eq_true (by omega : (x.2.length : Int) > 0), decide_eq_true N]; rfl
       ·rw [decide_eq_false (by omega : ¬ (x.2.length : Int) > 0), decide_eq_false N]
        cases (List.range (x :: sh).length).all (kO m f (x :: sh)) with
        | false => rfl
        | true =>
         show some (Sum.inl ((z, aI .i64 (j : Int) 1), aJ m)) = _
         rw [aH (by omega)]; rfl
    ·have J : nP m f sh = false := by unfold nP; rw [decide_eq_false A]; rfl
     rw [J, decide_eq_false A]; rfl
   ·show qca_B0 10000 z (z.length : Int) m.recs m.funcs m.imps m.ints m.texts = _
    unfold qca_B0
    rw [aC, decide_eq_false (by omega), ye]
  ·rw [decide_eq_false hl]; rfl
end Sx
end
section
namespace Sx
open Go Go.Ab
theorem HD {S X A : Type} {B : S → Option (S ⊕ X)} {xs ys : List A} {mk : Nat → S} {t : A → A → Bool} {bad : A → A → X} {fin : X} (z : xs.length = ys.length) (ht : ∀ x y, t x y = true ↔ x = y)
  (O : ∀ i x y, xs[i]? = some x → ys[i]? = some y → B (mk i) = some (bif t x y then .inl (mk (i + 1)) else .inr (bad x y))) (M : B (mk xs.length) = some (.inr fin)) :
  ∀ (j i n : Nat), i + j = xs.length → j < n → xs.take i = ys.take i → (xs = ys ∧ aK B n (mk i) = some fin) ∨ (xs ≠ ys ∧ ∃ x y, aK B n (mk i) = some (bad x y))
 | _, _, 0, _, h, _ => by omega
 | 0, i, n + 1, U, _, H => by
  obtain rfl : i = xs.length := by omega
  refine .inl ⟨?_, bG M⟩
  rw [yf2] at H
  rw [H, z, yf2]
 | j + 1, i, n + 1, U, hn, H => by
  have h1 : i < xs.length := by omega
  have h2 : i < ys.length := by omega
  have hx : xs[i]? = some xs[i] := yd h1
  have N : ys[i]? = some ys[i] := yd h2
  have K := O i _ _ hx N
  cases J : t xs[i] ys[i] with
  | true =>
   rw [J] at K
   rw [bM K]
   refine HD z ht O M j (i + 1) n (by omega) (by omega) ?_
   rw [yv2, yv2, H, hx, N, (ht _ _).1 J]
  | false =>
   rw [J] at K
   refine .inr ⟨fun e => ?_, _, _, bG K⟩
   have : t xs[i] ys[i] = true := by
    rw [ht]
    subst e; rfl
   rw [J] at this; cases this
theorem gX {S X A : Type} {B : S → Option (S ⊕ X)} {xs ys : List A} {mk : Nat → S} {t : A → A → Bool} {bad : A → A → X} {fin : X} (h : xs.length = ys.length) (ht : ∀ x y, t x y = true ↔ x = y)
  (H : ∀ i x y, xs[i]? = some x → ys[i]? = some y → B (mk i) = some (bif t x y then .inl (mk (i + 1)) else .inr (bad x y))) (z : B (mk xs.length) = some (.inr fin)) {n : Nat} (hn : xs.length < n) :
  (xs = ys ∧ aK B n (mk 0) = some fin) ∨ (xs ≠ ys ∧ ∃ x y, aK B n (mk 0) = some (bad x y)) := HD h ht H z xs.length 0 n (by omega) hn rfl
theorem gY {A : Type} {xs : List A} {i : Nat} {x : A} (hb : xs.length < 4294967296) (h : xs[i]? = some x) : aI .i64 (i : Int) 1 = ((i + 1 : Nat) : Int) := aH (by have := aN h; omega)
theorem nO {A : Type} {xs : List A} {i : Nat} {x : A} (h : xs[i]? = some x) : decide ((i : Int) < aA xs) = true := by
 have := aN h; rw [aC]; simp; omega
theorem jU {A : Type} {xs : List A} : decide (((xs.length : Nat) : Int) < aA xs) = false := by rw [aC]; simp
theorem nN {A : Type} {xs ys : List A} (h : (aA xs != aA ys) = true) : xs ≠ ys := by
 rintro rfl; simp at h
theorem nS {A : Type} {xs ys : List A} (h : (aA xs != aA ys) = false) : xs.length = ys.length := by
 have : aA xs = aA ys := by simpa using h
 rw [aC, aC] at this; omega
theorem Dq {n : Nat} {a b : List Int} (h : a.length < n) (H : a.length < 4294967296) : qbf n a b = some (decide (a = b)) := by
 unfold qbf
 cases hl : (aA a != aA b) with
 | true => simp only [yg]; rw [decide_eq_false (nN hl)]
 | false =>
  simp only [ye]
  unfold qbf_W0
  rcases gX (B := fun s => qbf_B0 n s.1 s.2.1 s.2.2.1 s.2.2.2) (mk := fun i => (a, (b, (aA a, (i : Int))))) (t := fun x y => !(x != y)) (bad := fun _ _ => Sum.inl false) (fin := Sum.inr ()) (nS hl) (fun x y => by simp)
   (fun i x y hx J => by simp only [qbf_B0, nO hx, yg, aE, hx, J, ya, gY H hx]; cases (x != y) <;> rfl)
   (by simp only [qbf_B0, jU, ye]) h with ⟨z, A⟩ | ⟨z, x, y, A⟩
  ·erw [A]; rw [decide_eq_true z]; rfl
  ·erw [A]; rw [decide_eq_false z]; rfl
theorem Mm {n : Nat} {a b : List Int} (h : a.length < n) (H : a.length < 4294967296) : qdd n a b = some (decide (a = b)) := by
 unfold qdd
 cases hl : (aA a != aA b) with
 | true => simp only [yg]; rw [decide_eq_false (nN hl)]
 | false =>
  simp only [ye]
  unfold qdd_W0
  rcases gX (B := fun s => qdd_B0 n s.1 s.2.1 s.2.2.1 s.2.2.2) (mk := fun i => (a, (b, (aA a, (i : Int))))) (t := fun x y => !(x != y)) (bad := fun _ _ => Sum.inl false) (fin := Sum.inr ()) (nS hl) (fun x y => by simp)
   (fun i x y hx J => by simp only [qdd_B0, nO hx, yg, aE, hx, J, ya, gY H hx]; cases (x != y) <;> rfl)
   (by simp only [qdd_B0, jU, ye]) h with ⟨z, A⟩ | ⟨z, x, y, A⟩
  ·erw [A]; rw [decide_eq_true z]; rfl
  ·erw [A]; rw [decide_eq_false z]; rfl
theorem AC {n : Nat} {a b : List Int} (h : a.length < n) (H : a.length < 4294967296) : qcb n a b = some (decide (a = b)) := by
 unfold qcb
 cases hl : (aA a != aA b) with
 | true => simp only [yg]; rw [decide_eq_false (nN hl)]
 | false =>
  simp only [ye]
  unfold qcb_W0
  rcases gX (B := fun s => qcb_B0 n s.1 s.2.1 s.2.2) (mk := fun i => (a, (b, (i : Int)))) (t := fun x y => !(x != y)) (bad := fun _ _ => Sum.inl false) (fin := Sum.inr ()) (nS hl) (fun x y => by simp)
   (fun i x y hx J => by simp only [qcb_B0, nO hx, yg, aE, hx, J, ya, gY H hx]; cases (x != y) <;> rfl)
   (by simp only [qcb_B0, jU, ye]) h with ⟨z, A⟩ | ⟨z, x, y, A⟩
  ·erw [A]; rw [decide_eq_true z]; rfl
  ·erw [A]; rw [decide_eq_false z]; rfl
theorem LN {n : Nat} {a b : List Int} (h : a.length < n) (H : a.length < 4294967296) : qdk n a b = some (decide (a = b)) := by
 unfold qdk
 cases hl : (aA a != aA b) with
 | true => simp only [yg]; rw [decide_eq_false (nN hl)]
 | false =>
  simp only [ye]
  unfold qdk_W0
  rcases gX (B := fun s => qdk_B0 n s.1 s.2.1 s.2.2) (mk := fun i => (a, (b, (i : Int)))) (t := fun x y => !(x != y)) (bad := fun _ _ => Sum.inl false) (fin := Sum.inr ()) (nS hl) (fun x y => by simp)
   (fun i x y hx J => by simp only [qdk_B0, nO hx, yg, aE, hx, J, ya, gY H hx]; cases (x != y) <;> rfl)
   (by simp only [qdk_B0, jU, ye]) h with ⟨z, A⟩ | ⟨z, x, y, A⟩
  ·erw [A]; rw [decide_eq_true z]; rfl
  ·erw [A]; rw [decide_eq_false z]; rfl
theorem O6 {n : Nat} {a b : List (Int × Int × Bool)} (h : a.length < n) (H : a.length < 4294967296) : qbd n a b = some (decide (a = b)) := by
 unfold qbd
 cases hl : (aA a != aA b) with
 | true => simp only [yg]; rw [decide_eq_false (nN hl)]
 | false =>
  simp only [ye]
  unfold qbd_W0
  rcases gX (B := fun s => qbd_B0 n s.1 s.2.1 s.2.2.1 s.2.2.2) (mk := fun i => (a, (b, (aA a, (i : Int))))) (t := fun x y => (x.1 == y.1) && ((x.2.1 == y.2.1) && (x.2.2 == y.2.2))) (bad := fun _ _ => Sum.inl false) (fin := Sum.inr ()) (nS hl) (fun x y => by simp [Prod.ext_iff])
   (fun i x y hx J => by simp only [qbd_B0, nO hx, yg, aE, hx, J, ya, gY H hx]; cases ((x.1 == y.1) && ((x.2.1 == y.2.1) && (x.2.2 == y.2.2))) <;> rfl)
   (by simp only [qbd_B0, jU, ye]) h with ⟨z, A⟩ | ⟨z, x, y, A⟩
  ·erw [A]; rw [decide_eq_true z]; rfl
  ·erw [A]; rw [decide_eq_false z]; rfl
theorem MT {n : Nat} {a b : List (Int × Int × Bool)} (h : a.length < n) (H : a.length < 4294967296) : qdi n a b = some (decide (a = b)) := by
 unfold qdi
 cases hl : (aA a != aA b) with
 | true => simp only [yg]; rw [decide_eq_false (nN hl)]
 | false =>
  simp only [ye]
  unfold qdi_W0
  rcases gX (B := fun s => qdi_B0 n s.1 s.2.1 s.2.2) (mk := fun i => (a, (b, (i : Int)))) (t := fun x y => (x.1 == y.1) && ((x.2.1 == y.2.1) && (x.2.2 == y.2.2))) (bad := fun _ _ => Sum.inl false) (fin := Sum.inr ()) (nS hl) (fun x y => by simp [Prod.ext_iff])
   (fun i x y hx J => by simp only [qdi_B0, nO hx, yg, aE, hx, J, ya, gY H hx]; cases ((x.1 == y.1) && ((x.2.1 == y.2.1) && (x.2.2 == y.2.2))) <;> rfl)
   (by simp only [qdi_B0, jU, ye]) h with ⟨z, A⟩ | ⟨z, x, y, A⟩
  ·erw [A]; rw [decide_eq_true z]; rfl
  ·erw [A]; rw [decide_eq_false z]; rfl
theorem ND {n : Nat} {x y : Int × Int × List Int × List Int} (h1 : x.2.2.1.length < n ∧ x.2.2.1.length < 4294967296) (h2 : x.2.2.2.length < n ∧ x.2.2.2.length < 4294967296) :
  qbk n x.1 x.2.1 x.2.2.1 x.2.2.2 y.1 y.2.1 y.2.2.1 y.2.2.2 = some (decide (x = y)) := by
 obtain ⟨z, H, Y, O⟩ := x
 obtain ⟨A, h, M, U⟩ := y
 simp only [qbk, Dq h1.1 h1.2, Dq h2.1 h2.2, ya, Prod.mk.injEq]
 have K : (z == A) = decide (z = A) := rfl
 have N : (H == h) = decide (H = h) := rfl
 rw [K, N]
 by_cases W : z = A <;> by_cases V : H = h <;> by_cases Z : Y = M <;> by_cases J : O = U <;> simp [W, V, Z, J]
theorem Py {n : Nat} {x y : Int × Int × List Int × List Int} (h1 : x.2.2.1.length < n ∧ x.2.2.1.length < 4294967296) (h2 : x.2.2.2.length < n ∧ x.2.2.2.length < 4294967296) :
  qcs n x.1 x.2.1 x.2.2.1 x.2.2.2 y.1 y.2.1 y.2.2.1 y.2.2.2 = some (decide (x = y)) := by
 obtain ⟨z, H, Y, O⟩ := x
 obtain ⟨A, h, M, U⟩ := y
 simp only [qcs, Dq h1.1 h1.2, Mm h2.1 h2.2, ya, Prod.mk.injEq]
 have K : (z == A) = decide (z = A) := rfl
 have N : (H == h) = decide (H = h) := rfl
 rw [K, N]
 by_cases W : z = A <;> by_cases V : H = h <;> by_cases Z : Y = M <;> by_cases J : O = U <;> simp [W, V, Z, J]
def LW (n : Nat) (l : List (Int × Int × List Int × List Int)) : Prop := (l.length < n ∧ l.length < 4294967296) ∧ ∀ x ∈ l, (x.2.2.1.length < n ∧ x.2.2.1.length < 4294967296) ∧ x.2.2.2.length < n ∧ x.2.2.2.length < 4294967296
theorem Ms {n : Nat} {a b : List (Int × Int × List Int × List Int)} (h : LW n a) : qal n a b = some (decide (a = b)) := by
 have J := h.1.2
 unfold qal
 cases hl : (aA a != aA b) with
 | true => simp only [yg]; rw [decide_eq_false (nN hl)]
 | false =>
  simp only [ye]
  unfold qal_W0
  rcases gX (B := fun s => qal_B0 n s.1 s.2.1 s.2.2.1 s.2.2.2) (mk := fun i => (b, (a, (aA a, (i : Int))))) (t := fun x y => decide (x = y)) (bad := fun x y => Sum.inl (false, (x, y))) (fin := Sum.inr ()) (nS hl) (fun x y => by simp)
   (fun i x y hx K => by
    have z := h.2 x (yj hx)
    simp only [qal_B0, nO hx, yg, aE, hx, K, ya, ND z.1 z.2, gY J hx]
    cases decide (x = y) <;> rfl)
   (by simp only [qal_B0, jU, ye]) h.1.1 with ⟨A, H⟩ | ⟨A, x, y, H⟩
  ·erw [H]; rw [decide_eq_true A]; rfl
  ·erw [H]; rw [decide_eq_false A]; rfl
theorem N0 {n : Nat} {a b : List (Int × Int × List Int × List Int)} (h : LW n a) : qav n a b = some (decide (a = b)) := by
 have J := h.1.2
 unfold qav
 cases hl : (aA a != aA b) with
 | true => simp only [yg]; rw [decide_eq_false (nN hl)]
 | false =>
  simp only [ye]
  unfold qav_W0
  rcases gX (B := fun s => qav_B0 n s.1 s.2.1 s.2.2.1 s.2.2.2) (mk := fun i => (b, (a, (aA a, (i : Int))))) (t := fun x y => decide (x = y)) (bad := fun x y => Sum.inl (false, (x, y))) (fin := Sum.inr ()) (nS hl) (fun x y => by simp)
   (fun i x y hx K => by
    have z := h.2 x (yj hx)
    simp only [qav_B0, nO hx, yg, aE, hx, K, ya, Py z.1 z.2, gY J hx]
    cases decide (x = y) <;> rfl)
   (by simp only [qav_B0, jU, ye]) h.1.1 with ⟨A, H⟩ | ⟨A, x, y, H⟩
  ·erw [H]; rw [decide_eq_true A]; rfl
  ·erw [H]; rw [decide_eq_false A]; rfl
end Sx
end
section
set_option synthInstance.maxSize 2000
set_option synthInstance.maxHeartbeats 400000
namespace Sx
open Go Go.Ab
theorem GT (a b : Int) : (a != b) = !decide (a = b) := rfl
theorem Nd {n : Nat} {a b : List (Int × Int × List Int × List Int)} (h : LW n a) : qcz n a b = some (decide (a = b)) := by
 have U := h.1.2
 unfold qcz
 cases hl : (aA a != aA b) with
 | true => simp only [yg]; rw [decide_eq_false (nN hl)]
 | false =>
  simp only [ye]
  unfold qcz_W0
  rcases gX (B := fun s => qcz_B0 n s.1 s.2.1 s.2.2) (mk := fun i => (a, (b, (i : Int)))) (t := fun x y => decide (x = y)) (bad := fun x y => Sum.inl false) (fin := Sum.inr ()) (nS hl) (fun x y => by simp)
   (fun i x y hx Z => by
    have z := h.2 x (yj hx)
    simp only [qcz_B0, nO hx, yg, aE, hx, Z, ya, AC z.1.1 z.1.2, LN z.2.1 z.2.2, gY U hx, GT]
    obtain ⟨N, x2, x3, V⟩ := x
    obtain ⟨O, K, M, W⟩ := y
    by_cases e1 : N = O <;> by_cases Y : x2 = K <;> by_cases e3 : x3 = M <;> by_cases J : V = W <;> simp [e1, Y, e3, J])
   (by simp only [qcz_B0, jU, ye]) h.1.1 with ⟨H, A⟩ | ⟨H, x, y, A⟩
  ·erw [A]; rw [decide_eq_true H]; rfl
  ·erw [A]; rw [decide_eq_false H]; rfl
abbrev Oo := List (Int × Int × List Int × List Int) × List (Int × Int × List Int × List Int) × List (Int × Int × Bool) × Int × Int × Int × Int
def M5 (n : Nat) (a : Oo) : Prop := LW n a.1 ∧ LW n a.2.1 ∧ a.2.2.1.length < n ∧ a.2.2.1.length < 4294967296
theorem Of {n : Nat} {a b : Oo} (h : M5 n a) : qcv n a.1 a.2.1 a.2.2.1 a.2.2.2.1 a.2.2.2.2.1 a.2.2.2.2.2.1 a.2.2.2.2.2.2 b.1 b.2.1 b.2.2.1 b.2.2.2.1 b.2.2.2.2.1 b.2.2.2.2.2.1 b.2.2.2.2.2.2 = some (decide (a = b)) := by
 obtain ⟨h1, h2, z, A⟩ := h
 obtain ⟨a1, Y, a3, a4, a5, a6, V⟩ := a
 obtain ⟨J, Z, W, b4, U, N, b7⟩ := b
 simp only at h1 h2 z A
 have e (x y : Int) : (x == y) = decide (x = y) := rfl
 simp only [qcv, Ms h1, N0 h2, O6 z A, ya, e, Prod.mk.injEq]
 by_cases e1 : a1 = J <;> by_cases e2 : Y = Z <;> by_cases e3 : a3 = W <;> by_cases H : a4 = b4 <;> by_cases M : a5 = U <;> by_cases K : a6 = N <;> by_cases O : V = b7 <;> simp [e1, e2, e3, H, M, K, O]
theorem GE {n : Nat} {a b : Oo} (h : LW n a.1) (A : a.1.length = b.1.length) :
  (a.1 = b.1 ∧ qbl_W0 n (0, (a, b)) = some (Sum.inr (a, b))) ∨ (a.1 ≠ b.1 ∧ ∃ r, qbl_W0 n (0, (a, b)) = some (Sum.inl r) ∧ r.1 = false) := by
 have V := h.1.2
 unfold qbl_W0
 rcases gX (B := fun s => qbl_B0 n s.1 s.2.1.1 s.2.1.2.1 s.2.1.2.2.1 s.2.1.2.2.2.1 s.2.1.2.2.2.2.1 s.2.1.2.2.2.2.2.1 s.2.1.2.2.2.2.2.2 s.2.2.1 s.2.2.2.1 s.2.2.2.2.1 s.2.2.2.2.2.1 s.2.2.2.2.2.2.1 s.2.2.2.2.2.2.2.1 s.2.2.2.2.2.2.2.2)
   (mk := fun i => ((i : Int), (a, b))) (t := fun x y => decide (x = y)) (bad := fun x y => Sum.inl (false, (a, (b, (x, y))))) (fin := Sum.inr (a, b)) (xs := a.1) (ys := b.1) A (fun x y => by simp)
   (fun i x y hx hy => by
    have z := h.2 x (yj hx)
    simp only [qbl_B0, nO hx, yg, aE, hx, hy, ya, AC z.1.1 z.1.2, AC z.2.1 z.2.2, gY V hx, GT]
    obtain ⟨O, x2, x3, W⟩ := x
    obtain ⟨U, M, N, Y⟩ := y
    by_cases e1 : O = U <;> by_cases Z : x2 = M <;> by_cases e3 : x3 = N <;> by_cases K : W = Y <;> simp [e1, Z, e3, K])
   (by simp only [qbl_B0, jU, ye]) h.1.1 with ⟨J, H⟩ | ⟨J, x, y, H⟩
 ·exact .inl ⟨J, H⟩
 ·exact .inr ⟨J, _, H, rfl⟩
theorem Ko {n : Nat} {a b : Oo} (h : M5 n a) : qbl n a.1 a.2.1 a.2.2.1 a.2.2.2.1 a.2.2.2.2.1 a.2.2.2.2.2.1 a.2.2.2.2.2.2 b.1 b.2.1 b.2.2.1 b.2.2.2.1 b.2.2.2.2.1 b.2.2.2.2.2.1 b.2.2.2.2.2.2 = some (decide (a = b)) := by
 obtain ⟨h1, h2, h3, h4⟩ := h
 unfold qbl
 cases hl : (aA a.1 != aA b.1) with
 | true =>
  simp only [yg]
  rw [decide_eq_false (fun e => nN hl (congrArg Prod.fst e))]
 | false =>
  simp only [ye, GT]
  have z := GE (n := n) (a := a) (b := b) h1 (nS hl)
  have key : ∀ q : Option ((Bool × Oo × Oo × (Int × Int × List Int × List Int) × Int × Int × List Int × List Int) ⊕ (Oo × Oo)), qbl_W0 n (0, (a, b)) = q → True := fun _ _ => trivial
  obtain ⟨a1, a2, a3, a4, a5, Z, W⟩ := a
  obtain ⟨b1, b2, b3, b4, V, U, Y⟩ := b
  simp only at h1 h2 h3 h4 z ⊢
  rcases z with ⟨O, N⟩ | ⟨O, r, N, J⟩
  ·simp only [N, ya, Nd h2, MT h3 h4, Prod.mk.injEq]
   by_cases e2 : a2 = b2 <;> by_cases e3 : a3 = b3 <;> by_cases A : a4 = b4 <;> by_cases K : a5 = V <;> by_cases H : Z = U <;> by_cases M : W = Y <;> simp [O, e2, e3, A, K, H, M]
  ·simp only [N, ya, J, Prod.mk.injEq]
   by_cases A : a4 = b4 <;> by_cases K : a5 = V <;> by_cases H : Z = U <;> by_cases M : W = Y <;> simp [O, A, K, H, M]
end Sx
end
section
namespace Sx
open Go Go.Ab
abbrev Pd := Int × Int × List Int × List Int
abbrev kW := Oo
structure Nj (s : kW) : Prop where
 n1 : s.1.length ≤ 140737488351232
 n2 : s.2.1.length ≤ 140737488351232
 n3 : s.2.2.1.length ≤ 140737488351232
 f : ∀ x ∈ s.1, x.2.2.1.length ≤ 140737488351232 ∧ x.2.2.2.length ≤ 140737488351232
 o : ∀ x ∈ s.2.1, x.2.2.1.length ≤ 140737488351232 ∧ x.2.2.2.length ≤ 140737488351232
structure wR (s : kW) : Prop where
 n : s.1.length + s.2.1.length + s.2.2.1.length ≤ 300
 f : ∀ x ∈ s.1, x.2.2.1.length ≤ 3000 ∧ x.2.2.2.length ≤ 3000
 o : ∀ x ∈ s.2.1, x.2.2.1.length ≤ 3000 ∧ x.2.2.2.length ≤ 3000
theorem dD {a b : Int} (h1 : 0 ≤ a) (h2 : 0 ≤ b) (h3 : a + b ≤ 9000000000000000000) : aI .i64 a b = a + b := cK (by omega) (by omega)
theorem l6 {S X A : Type} {B : S → Option (S ⊕ X)} {xs : List A} {mk : Nat → Int → S} {f : A → Nat} {e : Int → X} {c : Nat} {base : Int} (hb : 0 ≤ base) (U : ∀ x ∈ xs, f x ≤ c) (N : base + (c : Int) * (xs.length : Int) ≤ 9000000000000000000)
  (Y : ∀ i a x, xs[i]? = some x → x ∈ xs → 0 ≤ a → a + (f x : Int) ≤ 9000000000000000000 → B (mk i a) = some (.inl (mk (i + 1) (a + (f x : Int))))) (V : ∀ a, B (mk xs.length a) = some (.inr (e a))) {n : Nat} (hn : xs.length < n) :
  ∃ a, aK B n (mk 0 base) = some (e a) ∧ base ≤ a ∧ a ≤ base + (c : Int) * (xs.length : Int) ∧ ∀ x ∈ xs, (f x : Int) ≤ a := by
 have h := dL (B := B) (xs := xs) (mk := mk) (I := fun i a => base ≤ a ∧ a ≤ base + (c : Int) * (i : Int) ∧ ∀ x ∈ xs.take i, (f x : Int) ≤ a) (Q := fun y => ∃ a, y = e a ∧ base ≤ a ∧ a ≤ base + (c : Int) * (xs.length : Int) ∧ ∀ x ∈ xs, (f x : Int) ≤ a)
  (fun i a x hx hI => ?_) (fun a hI => ?_) xs.length 0 n base (by omega) ⟨Int.le_refl _, by simp, by simp⟩ hn
 ·obtain ⟨y, h1, a, rfl, h2⟩ := h
  exact ⟨a, h1, h2⟩
 ·have W := aN hx
  have hm := yj hx
  have O := U x hm
  obtain ⟨h1, h2, K⟩ := hI
  have M : (c : Int) * (i : Int) + (c : Int) ≤ (c : Int) * (xs.length : Int) := by
   have : (c * (i + 1) : Nat) ≤ c * xs.length := Nat.mul_le_mul_left c W
   rw [Nat.mul_succ] at this
   have h := Int.ofNat_le.2 this
   simpa using h
  have H : (c : Int) * ((i + 1 : Nat) : Int) = (c : Int) * (i : Int) + (c : Int) := by
   rw [Int.natCast_add, Int.mul_add]; simp
  refine .inl ⟨_, Y i a x hx hm (by omega) (by omega), by omega, by rw [H]; omega, fun z J => ?_⟩
  rw [yv2, hx, yy1] at J
  rcases J with J | J
  ·have := K z J; omega
  ·simp at J; subst J; omega
 ·obtain ⟨h1, h2, K⟩ := hI
  rw [yf2] at K
  exact ⟨_, V a, a, rfl, h1, h2, K⟩
theorem OV (n : Nat) (s : kW) (hl : Nj s) (hn : 1000 ≤ n) : ∃ x, qbq n s.1 s.2.1 s.2.2.1 s.2.2.2.1 s.2.2.2.2.1 s.2.2.2.2.2.1 s.2.2.2.2.2.2 = some x ∧ (x = true → wR s) := by
 unfold qbq
 have n1 := hl.n1
 have n2 := hl.n2
 have n3 := hl.n3
 have O : aI .i64 (aI .i64 (aA s.2.1) (aA s.2.2.1)) (aA s.1) = ((s.1.length + s.2.1.length + s.2.2.1.length : Nat) : Int) := by
  simp only [aC]
  rw [dD (b := ((s.2.2.1.length : Nat) : Int)) (by omega) (by omega) (by omega), dD (b := ((s.1.length : Nat) : Int)) (by omega) (by omega) (by omega)]
  omega
 rw [O]
 by_cases h3 : s.1.length + s.2.1.length + s.2.2.1.length > 300
 ·rw [decide_eq_true (by omega), yg]
  exact ⟨false, rfl, fun h => by cases h⟩
 ·rw [decide_eq_false (by omega), ye]
  have K := l6 (B := fun s => qbq_B0 n s.1.1 s.1.2 s.2.1 s.2.2.1 s.2.2.2.1 s.2.2.2.2.1 s.2.2.2.2.2.1 s.2.2.2.2.2.2.1 s.2.2.2.2.2.2.2) (xs := s.2.1) (mk := fun i a => ((a, (i : Int)), s)) (f := fun x => x.2.2.1.length + x.2.2.2.length) (e := fun a => (a, s))
   (c := 281474976702464) (base := ((s.1.length + s.2.1.length + s.2.2.1.length : Nat) : Int)) (by omega) (fun x hx => by have := hl.o x hx; omega) (by omega) (fun i a x hx hm H A => by
    have N := aN hx
    have z := hl.o x hm
    show qbq_B0 n a (i : Int) s.1 s.2.1 s.2.2.1 s.2.2.2.1 s.2.2.2.2.1 s.2.2.2.2.2.1 s.2.2.2.2.2.2 = _
    unfold qbq_B0
    rw [aC, decide_eq_true (by omega), yg, aE, hx, ya, ya, aC, aC, dD (b := ((x.2.2.1.length : Nat) : Int)) (by omega) (by omega) (by omega), dD (b := ((x.2.2.2.length : Nat) : Int)) (by omega) (by omega) (by omega), aH (by omega)]
    rw [show a + ((x.2.2.1.length + x.2.2.2.length : Nat) : Int) = a + (x.2.2.1.length : Int) + (x.2.2.2.length : Int) by omega]) (fun a => by
    show qbq_B0 n a (s.2.1.length : Int) s.1 s.2.1 s.2.2.1 s.2.2.2.1 s.2.2.2.2.1 s.2.2.2.2.2.1 s.2.2.2.2.2.2 = _
    unfold qbq_B0
    rw [aC, decide_eq_false (by omega), ye]) (n := n) (by omega)
  obtain ⟨a, M, a1, a2, V⟩ := K
  have h1 := l6 (B := fun s => qbq_B2 n s.1.1 s.1.2 s.2.1 s.2.2.1 s.2.2.2.1 s.2.2.2.2.1 s.2.2.2.2.2.1 s.2.2.2.2.2.2.1 s.2.2.2.2.2.2.2) (xs := s.1) (mk := fun i a => ((a, (i : Int)), s)) (f := fun x => x.2.2.1.length + x.2.2.2.length) (e := fun a => (a, s))
   (c := 281474976702464) (base := a) (by omega) (fun x hx => by have := hl.f x hx; omega) (by omega) (fun i a x hx hm H A => by
    have N := aN hx
    have z := hl.f x hm
    show qbq_B2 n a (i : Int) s.1 s.2.1 s.2.2.1 s.2.2.2.1 s.2.2.2.2.1 s.2.2.2.2.2.1 s.2.2.2.2.2.2 = _
    unfold qbq_B2
    rw [aC, decide_eq_true (by omega), yg, aE, hx, ya, ya, aC, aC, dD (b := ((x.2.2.1.length : Nat) : Int)) (by omega) (by omega) (by omega), dD (b := ((x.2.2.2.length : Nat) : Int)) (by omega) (by omega) (by omega), aH (by omega)]
    rw [show a + ((x.2.2.1.length + x.2.2.2.length : Nat) : Int) = a + (x.2.2.1.length : Int) + (x.2.2.2.length : Int) by omega]) (fun a => by
    show qbq_B2 n a (s.1.length : Int) s.1 s.2.1 s.2.2.1 s.2.2.2.1 s.2.2.2.2.1 s.2.2.2.2.2.1 s.2.2.2.2.2.2 = _
    unfold qbq_B2
    rw [aC, decide_eq_false (by omega), ye]) (n := n) (by omega)
  obtain ⟨b, U, b1, b2, J⟩ := h1
  refine ⟨decide (b < 3000), ?_, fun h => ?_⟩
  ·refine (congrArg (fun q => Option.bind q _) M).trans ?_
   rw [ya]
   refine (congrArg (fun q => Option.bind q _) U).trans ?_
   rfl
  ·have A := of_decide_eq_true h
   exact ⟨by omega, fun x hx => by have := J x hx; omega, fun x hx => by have := V x hx; omega⟩
theorem wR.fine {s : kW} (h : wR s) {n : Nat} (hn : 4000 ≤ n) : M5 n s := by
 have h1 := h.n
 exact ⟨⟨⟨by omega, by omega⟩, fun x hx => by have := h.f x hx; exact ⟨⟨by omega, by omega⟩, by omega, by omega⟩⟩, ⟨⟨by omega, by omega⟩, fun x hx => by have := h.o x hx; exact ⟨⟨by omega, by omega⟩, by omega, by omega⟩⟩, by omega, by omega⟩
end Sx
end
section
namespace Sx
open Go Go.Ab
abbrev Pf := Int × Int × List Int × List Int
abbrev Rf := List (List cQ) × List iT × List Mw × List Int × List ByteArray × List (List dA) × kW
def lk (m : aW) (maps : List (List dA)) (s : kW) : Rf := (m.recs, m.funcs, m.imps, m.ints, m.texts, maps, s)
def Fg (s : kW) (v : Int) (t : cQ) : Bool :=
 bif t.1 == 1 then true else bif t.1 == 8 then true else
 bif t.1 == 5 then (bif decide (v < (s.2.2.1.length : Int)) then (match aD s.2.2.1 v with | some h => h.1 == t.2 | none => false) else false) else
 bif v == 0 then true else bif t.1 == 6 then false else bif decide (v > (s.2.1.length : Int)) then false else
 (match aD s.2.1 (v - 1) with | some o => bif t.1 == 7 then true else (t.1 == o.1 && t.2 == o.2.1) | none => false)
def gP (s : kW) (l : List Int) (ts : List cQ) : Bool := decide (l.length = ts.length) && (l.zip ts).all fun q => Fg s q.1 q.2
def Qh (v : Int) : Prop := 0 ≤ v ∧ v ≤ 18446744073709551615
def Lo (l : List Int) : Prop := ∀ v ∈ l, Qh v
theorem sS {α : Type} (xs : List α) (h : xs.length ≤ 4294967296) : aY .u64 (aA xs) = ((xs.length : Nat) : Int) := by rw [aC]; exact cW (by omega) (by omega)
theorem MK {v : Int} (h : Qh v) (h0 : v ≠ 0) : a8 .u64 v 1 = v - 1 := by
 obtain ⟨h1, h2⟩ := h
 unfold a8; rw [z0]; omega
theorem Ok (n : Nat) (m : aW) (h : List (List dA)) (s : kW) (v : Int) (t : cQ) (A : Qh v) (h1 : s.2.1.length ≤ 4294967296) (h2 : s.2.2.1.length ≤ 4294967296) :
  qaj n v t.1 t.2 (lk m h s) = some (Fg s v t, lk m h s) := by
 unfold qaj Fg lk
 simp only [sS _ h1, sS _ h2]
 cases t.1 == 1
 case true => rfl
 cases t.1 == 8
 case true => rfl
 simp only [ye]
 cases t.1 == 5 with
 | true =>
  simp only [yg]
  by_cases hl : v < (s.2.2.1.length : Int)
  ·obtain ⟨x, hx⟩ := lC A.1 hl
   rw [decide_eq_true hl, hx]; rfl
  ·rw [decide_eq_false hl]; rfl
 | false =>
  simp only [ye]
  by_cases z : v = 0
  ·rw [z]; rfl
  ·rw [beq_eq_false_iff_ne.2 z]
   simp only [ye]
   cases t.1 == 6
   case true => rfl
   simp only [ye]
   by_cases hl : v > (s.2.1.length : Int)
   ·rw [decide_eq_true hl]; rfl
   ·rw [decide_eq_false hl, MK A z]
    have := A.1
    obtain ⟨x, hx⟩ := lC (l := s.2.1) (t := v - 1) (by omega) (by omega)
    rw [hx]
    simp only [ye, ya]
    cases t.1 == 7 <;> rfl
theorem PD (n : Nat) (s : kW) (v : Int) (t : cQ) (z : Qh v) (h1 : s.2.1.length ≤ 4294967296) (h2 : s.2.2.1.length ≤ 4294967296) :
  qdr n s v t.1 t.2 = some (Fg s v t) := by
 unfold qdr Fg
 simp only [sS _ h1, sS _ h2]
 cases t.1 == 1
 case true => rfl
 cases t.1 == 8
 case true => rfl
 simp only [ye]
 cases t.1 == 5 with
 | true =>
  simp only [yg]
  by_cases hl : v < (s.2.2.1.length : Int)
  ·obtain ⟨x, hx⟩ := lC z.1 hl
   rw [decide_eq_true hl, hx]; rfl
  ·rw [decide_eq_false hl]; rfl
 | false =>
  simp only [ye]
  by_cases h : v = 0
  ·rw [h]; rfl
  ·rw [beq_eq_false_iff_ne.2 h]
   simp only [ye]
   cases t.1 == 6
   case true => rfl
   simp only [ye]
   by_cases hl : v > (s.2.1.length : Int)
   ·rw [decide_eq_true hl]; rfl
   ·rw [decide_eq_false hl, MK z h]
    have := z.1
    obtain ⟨x, hx⟩ := lC (l := s.2.1) (t := v - 1) (by omega) (by omega)
    rw [hx]
    simp only [ye, ya]
    cases t.1 == 7 with
    | true => rfl
    | false => cases t.1 == x.1 <;> rfl
structure iE (s : kW) : Prop where
 sm : wR s
 fl : ∀ x ∈ s.1, Lo x.2.2.1 ∧ Lo x.2.2.2
 ob : ∀ x ∈ s.2.1, Lo x.2.2.1
theorem iE.heap {s : kW} (h : iE s) : s.2.1.length ≤ 300 := by have := h.sm.n; omega
theorem iE.hans {s : kW} (h : iE s) : s.2.2.1.length ≤ 300 := by have := h.sm.n; omega
theorem iE.frames {s : kW} (h : iE s) : s.1.length ≤ 300 := by have := h.sm.n; omega
theorem zH (n : Nat) (m : aW) (z : List (List dA)) (s : kW) (l : List Int) (ts : List cQ) (H : iE s) (hl : Lo l) (hn : 4000 ≤ n) (h3 : l.length ≤ 3000) :
  qy n l ts (lk m z s) = some (gP s l ts, lk m z s) := by
 have hh := H.heap
 have J := H.hans
 unfold qy qx gP
 rw [vI]
 by_cases A : l.length = ts.length
 ·rw [decide_eq_true A, yw, ye, yu]
  have h := loop_two (B := fun s => qx_B0 n s.1.1 s.1.2.1 s.1.2.2.1 s.1.2.2.2 s.2) (mk := fun (i : Nat) => ((ts, (l, (aA l, (i : Int)))), lk m z s)) (p := Fg s) (found := fun i x y => Sum.inl (false, (lk m z s, y))) (e := Sum.inr (lk m z s)) A (fun i x y hx K => ?_) ?_ n (by omega)
  ·rcases h with ⟨h1, h2⟩ | ⟨h1, i, x, y, h2⟩
   ·rw [show qx_W0 n ((ts, (l, (aA l, 0))), lk m z s) = _ from h2, h1]; rfl
   ·rw [show qx_W0 n ((ts, (l, (aA l, 0))), lk m z s) = _ from h2, h1]; rfl
  ·have hi := cO hx
   show qx_B0 n ts l (aA l) (i : Int) (lk m z s) = _
   unfold qx_B0
   rw [aC, decide_eq_true (by omega), yg, aE, hx, ya, aE, K, ya, Ok n m z s x y (hl x (yj hx)) (by omega) (by omega), ya, aH (by omega)]
   cases Fg s x y <;> rfl
  ·show qx_B0 n ts l (aA l) (l.length : Int) (lk m z s) = _
   unfold qx_B0
   rw [aC, decide_eq_false (by omega), ye]
 ·rw [decide_eq_false A]; rfl
theorem Kq (n : Nat) (s : kW) (l : List Int) (ts : List cQ) (A : iE s) (hl : Lo l) (hn : 4000 ≤ n) (h3 : l.length ≤ 3000) : qdy n s l ts = some (gP s l ts) := by
 have hh := A.heap
 have H := A.hans
 unfold qdy gP
 rw [vI]
 by_cases z : l.length = ts.length
 ·rw [decide_eq_true z, yw, ye, yu]
  have h := loop_two (B := fun s => qdy_B0 n s.1.1 s.1.2.1 s.1.2.2 s.2) (mk := fun (i : Nat) => ((l, (ts, (i : Int))), s)) (p := Fg s) (found := fun i x y => Sum.inl (false, s)) (e := Sum.inr s) z (fun i x y hx J => ?_) ?_ n (by omega)
  ·rcases h with ⟨h1, h2⟩ | ⟨h1, i, x, y, h2⟩
   ·rw [show qdy_W0 n ((l, (ts, 0)), s) = _ from h2, h1]; rfl
   ·rw [show qdy_W0 n ((l, (ts, 0)), s) = _ from h2, h1]; rfl
  ·have hi := cO hx
   show qdy_B0 n l ts (i : Int) s = _
   unfold qdy_B0
   rw [aC, decide_eq_true (by omega), yg, aE, hx, ya, aE, J, ya, PD n s x y (hl x (yj hx)) (by omega) (by omega), ya, aH (by omega)]
   cases Fg s x y <;> rfl
  ·show qdy_B0 n l ts (l.length : Int) s = _
   unfold qdy_B0
   rw [aC, decide_eq_false (by omega), ye]
 ·rw [decide_eq_false z]; rfl
def qI (m : aW) (s : kW) (o : Pf) : Bool :=
 bif o.1 == 2 then (o.2.1 == 0 && ((o.2.2.1.length : Int) == 0 && decide ((o.2.2.2.length : Int) ≤ 64))) else
 bif o.1 == 3 then (o.2.1 == 0 && ((o.2.2.2.length : Int) == 0 && decide ((o.2.2.1.length : Int) ≤ 64))) else
 (o.1 == 4 && (decide (o.2.1 ≥ 0) && (decide (o.2.1 < (m.recs.length : Int)) && ((o.2.2.2.length : Int) == 0 && (match aD m.recs o.2.1 with | some r => gP s o.2.2.1 r | none => false)))))
theorem N5 (n : Nat) (m : aW) (h : List (List dA)) (s : kW) (o : Pf) (H : iE s) (J : Lo o.2.2.1) (K : o.2.2.1.length ≤ 3000) (hn : 4000 ≤ n) :
  qai n o.1 o.2.1 o.2.2.1 o.2.2.2 (lk m h s) = some (qI m s o, lk m h s) := by
 unfold qai qI
 simp only [aC]
 cases o.1 == 2 with
 | true =>
  simp only [yg]
  cases o.2.1 == 0
  case false => rfl
  cases (o.2.2.1.length : Int) == 0 <;> rfl
 | false =>
  simp only [ye]
  cases o.1 == 3 with
  | true =>
   simp only [yg]
   cases o.2.1 == 0
   case false => rfl
   cases (o.2.2.2.length : Int) == 0 <;> rfl
  | false =>
   simp only [ye]
   cases o.1 == 4
   case false => rfl
   simp only [yg, yu]
   by_cases z : o.2.1 ≥ 0
   ·rw [decide_eq_true z, yg, yu]
    show (bif decide (o.2.1 < (m.recs.length : Int)) then _ else _) = _
    by_cases h1 : o.2.1 < (m.recs.length : Int)
    ·rw [decide_eq_true h1, yg, yu]
     cases (o.2.2.2.length : Int) == 0
     case false => rfl
     obtain ⟨r, A⟩ := lC z h1
     show ((aD m.recs o.2.1).bind fun x => _) = _
     rw [A, ya, zH n m h s _ _ H J hn K]; rfl
    ·rw [decide_eq_false h1]; rfl
   ·rw [decide_eq_false z]; rfl
end Sx
end
section
namespace Sx
open Go Go.Ab
abbrev NE := Int × Int × Bool
def s6 (h : NE) : Bool := bif decide (h.1 < 0) then true else decide (h.1 ≥ 4)
theorem Pm (n : Nat) (h : NE) : qq n h.1 h.2.1 h.2.2 = some (s6 h) := by
 unfold qq s6
 cases decide (h.1 < 0) <;> rfl
theorem Og (n : Nat) (l : List NE) (hl : l.length ≤ 3000) (hn : 4000 ≤ n) : qi n l = some (l.any s6) := by
 unfold qi qae
 have h := bA (xs := l) (B := fun s => qae_B0 n s.1 s.2.1 s.2.2) (mk := fun (i : Nat) => (l, (aA l, (i : Int)))) (p := s6) (found := fun i t => Sum.inl (i : Int)) (e := Sum.inr ()) (fun i t hx => ?_) ?_ l.length 0 n (by omega) (by omega)
 ·rw [yl1] at h
  rcases h with ⟨h1, j, x, hx, _, h2⟩ | ⟨h1, h2⟩
  ·rw [show qae_W0 n (l, (aA l, 0)) = _ from h2, h1]
   show some (decide ((j : Int) ≥ 0)) = _
   rw [decide_eq_true (by omega)]
  ·rw [show qae_W0 n (l, (aA l, 0)) = _ from h2, h1]; rfl
 ·have hi := cO hx
  show qae_B0 n l (aA l) (i : Int) = _
  unfold qae_B0
  rw [aC, decide_eq_true (by omega), yg, aE, hx, ya, Pm, ya, aH (by omega)]
  cases s6 t <;> rfl
 ·show qae_B0 n l (aA l) (l.length : Int) = _
  unfold qae_B0
  rw [aC, decide_eq_false (by omega), ye]
theorem OU (n : Nat) (m : aW) (z : List (List dA)) (s : kW) (H : iE s) (hn : 4000 ≤ n) : qac n s.2.1 (lk m z s) = some (!s.2.1.all (qI m s), lk m z s) := by
 have hl := H.heap
 unfold qac qax
 have h := bA (xs := s.2.1) (B := fun s => qax_B0 n s.1.1 s.1.2.1 s.1.2.2 s.2) (mk := fun (i : Nat) => ((s.2.1, (aA s.2.1, (i : Int))), lk m z s)) (p := fun o => !qI m s o) (found := fun i t => Sum.inl ((i : Int), lk m z s)) (e := Sum.inr (lk m z s)) (fun i t hx => ?_) ?_ s.2.1.length 0 n (by omega) (by omega)
 ·rw [yl1] at h
  have A : s.2.1.all (qI m s) = !s.2.1.any (fun t => !qI m s t) := by rw [yr2]
  rcases h with ⟨h1, j, x, hx, _, h2⟩ | ⟨h1, h2⟩
  ·rw [show qax_W0 n ((s.2.1, (aA s.2.1, 0)), lk m z s) = _ from h2, A, h1]
   show some (decide ((j : Int) ≥ 0), lk m z s) = _
   rw [decide_eq_true (by omega)]; rfl
  ·rw [show qax_W0 n ((s.2.1, (aA s.2.1, 0)), lk m z s) = _ from h2, A, h1]; rfl
 ·have hi := cO hx
  have hm := yj hx
  show qax_B0 n s.2.1 (aA s.2.1) (i : Int) (lk m z s) = _
  unfold qax_B0 qo
  rw [aC, decide_eq_true (by omega), yg, aE, hx, ya, N5 n m z s t H (H.ob t hm) (H.sm.o t hm).1 hn, ya, ya, aH (by omega)]
  cases qI m s t <;> rfl
 ·show qax_B0 n s.2.1 (aA s.2.1) (s.2.1.length : Int) (lk m z s) = _
  unfold qax_B0
  rw [aC, decide_eq_false (by omega), ye]
def qD (s : kW) : Bool := decide (s.2.2.2.1 ≥ 0) && (decide (s.2.2.2.1 ≤ 65536) && (decide (s.2.2.2.2.1 ≥ 0) && (decide (s.2.2.2.2.1 ≤ s.2.2.2.1) && (decide (s.2.2.2.2.2.1 ≥ 0) && (decide (s.2.2.2.2.2.1 ≤ 7) && (decide ((s.2.1.length : Int) ≤ 4096) && decide ((s.2.2.1.length : Int) ≤ 16)))))))
def dC (m : aW) (s : kW) : Bool := qD s && (!(s.2.2.1.any s6) && s.2.1.all (qI m s))
theorem Ip (n : Nat) (m : aW) (h : List (List dA)) (s : kW) (z : iE s) (hn : 4000 ≤ n) : qu n (lk m h s) = some (dC m s, lk m h s) := by
 have h1 := Og n s.2.2.1 (by have := z.hans; omega) hn
 have h2 := OU n m h s z hn
 unfold qu dC qD
 show (bif decide (s.2.2.2.1 ≥ 0) then bif decide (s.2.2.2.1 ≤ 65536) then bif decide (s.2.2.2.2.1 ≥ 0) then bif decide (s.2.2.2.2.1 ≤ s.2.2.2.1) then bif decide (s.2.2.2.2.2.1 ≥ 0) then bif decide (s.2.2.2.2.2.1 ≤ 7) then bif decide ((s.2.1.length : Int) ≤ 4096) then bif decide ((s.2.2.1.length : Int) ≤ 16) then
  (qi n s.2.2.1).bind fun r => bif !r then (qac n s.2.1 (lk m h s)).bind fun r => some (!r.1, r.2) else some (false, lk m h s) else some (false, lk m h s) else some (false, lk m h s) else some (false, lk m h s) else some (false, lk m h s) else some (false, lk m h s) else some (false, lk m h s) else some (false, lk m h s) else some (false, lk m h s)) = _
 rw [h1, h2]
 cases decide (s.2.2.2.1 ≥ 0)
 case false => rfl
 cases decide (s.2.2.2.1 ≤ 65536)
 case false => rfl
 cases decide (s.2.2.2.2.1 ≥ 0)
 case false => rfl
 cases decide (s.2.2.2.2.1 ≤ s.2.2.2.1)
 case false => rfl
 cases decide (s.2.2.2.2.2.1 ≥ 0)
 case false => rfl
 cases decide (s.2.2.2.2.2.1 ≤ 7)
 case false => rfl
 cases decide ((s.2.1.length : Int) ≤ 4096)
 case false => rfl
 cases decide ((s.2.2.1.length : Int) ≤ 16)
 case false => rfl
 cases s.2.2.1.any s6 <;> simp
theorem KE (n : Nat) (m : aW) (z : List (List dA)) (s : kW) (J : iE s) (hn : 4000 ≤ n) :
  qch_W0 n ((z, 0), (aJ m, s)) = some (if s.2.2.1.any s6 = true then Sum.inl (false, (aJ m, s)) else Sum.inr (z, (aJ m, s))) := by
 have hl := J.hans
 have h := bA (xs := s.2.2.1) (B := fun s => qch_B0 n s.1.1 s.1.2 s.2.1.1 s.2.1.2.1 s.2.1.2.2.1 s.2.1.2.2.2.1 s.2.1.2.2.2.2 s.2.2) (mk := fun (i : Nat) => ((z, (i : Int)), (aJ m, s))) (p := s6) (found := fun i t => Sum.inl (false, (aJ m, s))) (e := Sum.inr (z, (aJ m, s))) (fun i t hx => ?_) ?_ s.2.2.1.length 0 n (by omega) (by omega)
 ·rw [yl1] at h
  rcases h with ⟨h1, j, x, hx, _, h2⟩ | ⟨h1, h2⟩
  ·rw [show qch_W0 n ((z, 0), (aJ m, s)) = _ from h2, h1]; rfl
  ·rw [show qch_W0 n ((z, 0), (aJ m, s)) = _ from h2, h1]; rfl
 ·have hi := cO hx
  show qch_B0 n z (i : Int) m.recs m.funcs m.imps m.ints m.texts s = _
  unfold qch_B0 s6
  rw [aC, decide_eq_true (by omega), yg, aE, hx, ya, ya, aH (by omega)]
  by_cases A : t.1 < 0
  ·rw [decide_eq_true A]; rfl
  ·rw [decide_eq_false A]
   by_cases H : t.1 > 3
   ·rw [decide_eq_true H, decide_eq_true (by omega : t.1 ≥ 4)]; rfl
   ·rw [decide_eq_false H, decide_eq_false (by omega : ¬ t.1 ≥ 4)]; rfl
 ·show qch_B0 n z (s.2.2.1.length : Int) m.recs m.funcs m.imps m.ints m.texts s = _
  unfold qch_B0
  rw [aC, decide_eq_false (by omega), ye]
theorem Pv (n : Nat) (m : aW) (h : List (List dA)) (s : kW) (i : Nat) (o : Pf) (H : iE s) (hn : 4000 ≤ n) (hx : s.2.1[i]? = some o) :
  qch_B2 n h (i : Int) m.recs m.funcs m.imps m.ints m.texts s = if qI m s o = true then some (Sum.inl ((h, ((i + 1 : Nat) : Int)), (aJ m, s))) else some (Sum.inr (Sum.inl (false, (aJ m, (s, o))))) := by
 have hl := H.heap
 have hi := cO hx
 have hm := yj hx
 unfold qch_B2 qI
 rw [aC, decide_eq_true (by omega), yg, aE, hx, ya, aH (by omega)]
 simp only [aC]
 by_cases h2 : o.1 = 2
 ·have A : (o.1 == 2) = true := beq_iff_eq.2 h2
  have z : (o.1 == 3) = false := beq_eq_false_iff_ne.2 (by omega)
  have J : (o.1 == 4) = false := beq_eq_false_iff_ne.2 (by omega)
  simp only [A, z, J, yg, ye]
  by_cases K : (o.2.2.2.length : Int) ≤ 64 <;> cases o.2.1 == 0 <;> cases (o.2.2.1.length : Int) == 0 <;> simp [K]
 ·have A : (o.1 == 2) = false := beq_eq_false_iff_ne.2 h2
  by_cases N : o.1 = 3
  ·have z : (o.1 == 3) = true := beq_iff_eq.2 N
   have J : (o.1 == 4) = false := beq_eq_false_iff_ne.2 (by omega)
   simp only [A, z, J, yg, ye]
   by_cases K : (o.2.2.1.length : Int) ≤ 64 <;> cases o.2.1 == 0 <;> cases (o.2.2.2.length : Int) == 0 <;> simp [K]
  ·have z : (o.1 == 3) = false := beq_eq_false_iff_ne.2 N
   simp only [A, z, ye]
   cases o.1 == 4
   case false => rfl
   simp only [yg, yu]
   by_cases M : o.2.1 ≥ 0
   ·simp only [eq_true M, decide_true, yg, yu]
    by_cases h1 : o.2.1 < (m.recs.length : Int)
    ·simp only [eq_true h1, decide_true, yg, yu]
     cases (o.2.2.2.length : Int) == 0
     case false => rfl
     obtain ⟨r, O⟩ := lC M h1
     simp only [O, yg, ya]
     rw [Kq n s _ _ H (H.ob o hm) hn (H.sm.o o hm).1, ya]
     cases gP s o.2.2.1 r <;> rfl
    ·simp only [eq_false h1, decide_false]; rfl
   ·simp only [eq_false M, decide_false]; rfl
theorem KL (n : Nat) (m : aW) (z : List (List dA)) (s : kW) (H : iE s) (hn : 4000 ≤ n) :
  (s.2.1.all (qI m s) = true ∧ qch_W2 n ((z, 0), (aJ m, s)) = some (Sum.inr (z, (aJ m, s)))) ∨ (s.2.1.all (qI m s) = false ∧ ∃ o, qch_W2 n ((z, 0), (aJ m, s)) = some (Sum.inl (false, (aJ m, (s, o))))) := by
 have hl := H.heap
 have h := bA (xs := s.2.1) (B := fun s => qch_B2 n s.1.1 s.1.2 s.2.1.1 s.2.1.2.1 s.2.1.2.2.1 s.2.1.2.2.2.1 s.2.1.2.2.2.2 s.2.2) (mk := fun (i : Nat) => ((z, (i : Int)), (aJ m, s))) (p := fun o => !qI m s o) (found := fun i o => Sum.inl (false, (aJ m, (s, o)))) (e := Sum.inr (z, (aJ m, s))) (fun i t hx => ?_) ?_ s.2.1.length 0 n (by omega) (by omega)
 ·rw [yl1] at h
  have A : s.2.1.all (qI m s) = !s.2.1.any (fun t => !qI m s t) := by rw [yr2]
  rcases h with ⟨h1, j, x, hx, _, h2⟩ | ⟨h1, h2⟩
  ·exact .inr ⟨by rw [A, h1]; rfl, x, h2⟩
  ·exact .inl ⟨by rw [A, h1]; rfl, h2⟩
 ·show qch_B2 n z (i : Int) m.recs m.funcs m.imps m.ints m.texts s = _
  rw [Pv n m z s i t H hn hx]
  cases qI m s t <;> rfl
 ·show qch_B2 n z (s.2.1.length : Int) m.recs m.funcs m.imps m.ints m.texts s = _
  unfold qch_B2
  rw [aC, decide_eq_false (by omega), ye]
end Sx
end
section
namespace Sx
open Go Go.Ab
theorem FS {X S : Type} {B : S → Option (S ⊕ X)} {mk : Nat → S} {q : Nat → Bool} {found : Nat → Bool → X} {k : Nat}
  (K : ∀ i, i + 1 < k → B (mk i) = if q i = true then some (.inl (mk (i + 1))) else some (.inr (found i false))) (hl : ∀ i, i + 1 = k → B (mk i) = some (.inr (found i (q i)))) :
  ∀ (j i n : Nat), i + j + 1 = k → j < n → ∃ J b, aK B n (mk i) = some (found J b) ∧ (b = true ↔ ∀ t, i ≤ t → t < k → q t = true)
 | 0, i, n + 1, h, _ => ⟨i, q i, bG (hl i (by omega)), fun z t h1 h2 => by rw [show t = i by omega]; exact z, fun A => A i (by omega) (by omega)⟩
 | j + 1, i, n + 1, h, hn => by
  have h1 := K i (by omega)
  cases A : q i with
  | true =>
   rw [A, if_pos rfl] at h1
   obtain ⟨J, b, h2, N⟩ := FS K hl j (i + 1) n (by omega) (by omega)
   refine ⟨J, b, by rw [bM h1]; exact h2, N.trans ⟨fun z t O H => ?_, fun z t O H => z t (by omega) H⟩⟩
   rcases ya2 i t with M | M
   ·exact z t (by omega) H
   ·rw [show t = i by omega]; exact A
  | false =>
   rw [A, if_neg (by simp)] at h1
   exact ⟨i, false, bG h1, fun z => (by cases z), fun z => by rw [z i (by omega) (by omega)] at A; cases A⟩
 | _, _, 0, _, hn => by omega
theorem IN {X S : Type} {B : S → Option (S ⊕ X)} {mk : Nat → S} {q : Nat → Bool} {bad : X → Prop} {e : X} {k : Nat}
  (ht : ∀ i, i < k → q i = true → B (mk i) = some (.inl (mk (i + 1)))) (hf : ∀ i, i < k → q i = false → ∃ y, B (mk i) = some (.inr y) ∧ bad y) (J : B (mk k) = some (.inr e)) :
  ∀ (j i n : Nat), i + j = k → j < n → ((∀ t, i ≤ t → t < k → q t = true) ∧ aK B n (mk i) = some e) ∨ ((¬ ∀ t, i ≤ t → t < k → q t = true) ∧ ∃ y, aK B n (mk i) = some y ∧ bad y)
 | 0, i, n + 1, h, _ => .inl ⟨fun t h1 h2 => by omega, bG (by rw [show i = k by omega]; exact J)⟩
 | j + 1, i, n + 1, h, hn => by
  cases z : q i with
  | true =>
   rw [bM (ht i (by omega) z)]
   rcases IN ht hf J j (i + 1) n (by omega) (by omega) with ⟨h1, h2⟩ | ⟨h1, h2⟩
   ·refine .inl ⟨fun t M H => ?_, h2⟩
    rcases ya2 i t with K | K
    ·exact h1 t (by omega) H
    ·rw [show t = i by omega]; exact z
   ·exact .inr ⟨fun A => h1 fun t M H => A t (by omega) H, h2⟩
  | false =>
   obtain ⟨y, h1, h2⟩ := hf i (by omega) z
   exact .inr ⟨fun A => (by rw [A i (by omega) (by omega)] at z; cases z), y, bG h1, h2⟩
 | _, _, 0, _, hn => by omega
structure Do (m : aW) (maps : List (List dA)) (fr : Pd) (fk pk : Nat) (f : iT) (sh : List dA) (x : dA) : Prop where
 h1 : fr.1 = (fk : Int)
 h2 : fr.2.1 = (pk : Int)
 hf : m.funcs[fk]? = some f
 hm : maps[fk]? = some sh
 hx : sh[pk]? = some x
 hl : sh.length = f.2.2.2.2.length
 ok : nP m f sh = true
 seen : x.1 = true
theorem In {m : aW} {z : List (List dA)} (hR : fD m z = true) {k : Nat} {f : iT} (hf : m.funcs[k]? = some f) : ∃ sh, z[k]? = some sh ∧ nP m f sh = true ∧ sh.length = f.2.2.2.2.length := by
 unfold fD at hR
 simp only [yc, decide_eq_true_eq] at hR
 obtain ⟨_, hl, H⟩ := hR
 have hk := cO hf
 have A : k < z.length := by omega
 have h := yx.1 H k (List.mem_range.2 A)
 rw [Hp (yd A) hf] at h
 refine ⟨_, yd A, h, ?_⟩
 unfold nP at h
 simp only [yc, decide_eq_true_eq] at h
 exact h.1.1
theorem N3 {m : aW} {f : iT} {sh : List dA} (h : nP m f sh = true) {k : Nat} (z : k < sh.length) : kO m f sh k = true := by
 unfold nP at h
 simp only [yc] at h
 exact yx.1 h.2 k (List.mem_range.2 z)
theorem k8 (n : Nat) (m : aW) (A : List (List dA)) (s : kW) (hR : fD m A = true) (fr : Pd) :
  (∃ U pk f sh x, Do m A fr U pk f sh x) ∨
  (qam n fr.1 fr.2.1 fr.2.2.1 fr.2.2.2 (lk m A s) = some (false, lk m A s) ∧ ∀ k, aD s.1 k = some fr → qbs n m.recs m.funcs m.imps m.ints m.texts A s k = some ([], false)) := by
 by_cases O : fr.1 < 0
 ·refine .inr ⟨?_, fun k J => ?_⟩
  ·unfold qam; rw [decide_eq_true O]; rfl
  ·unfold qbs; rw [J, ya, decide_eq_true O]; rfl
 by_cases V : fr.1 ≥ (m.funcs.length : Int)
 ·refine .inr ⟨?_, fun k J => ?_⟩
  ·unfold qam
   show (bif decide (fr.1 < 0) then _ else bif decide (fr.1 ≥ (m.funcs.length : Int)) then _ else _) = _
   rw [decide_eq_false O, decide_eq_true V]; rfl
  ·unfold qbs
   rw [J, ya, decide_eq_false O, aC, decide_eq_true V]; rfl
 obtain ⟨U, hfk⟩ : ∃ U : Nat, fr.1 = (U : Int) := ⟨fr.1.toNat, by omega⟩
 obtain ⟨f, hf⟩ : ∃ f, m.funcs[U]? = some f := ⟨_, yd (by omega)⟩
 obtain ⟨sh, hm, hok, hl⟩ := In hR hf
 have gf : aD m.funcs fr.1 = some f := by rw [hfk, aE]; exact hf
 have gm : aD A fr.1 = some sh := by rw [hfk, aE]; exact hm
 have hA : qam n fr.1 fr.2.1 fr.2.2.1 fr.2.2.2 (lk m A s) = bif decide (fr.2.1 < 0) then some (false, lk m A s) else bif decide (fr.2.1 ≥ aA f.2.2.2.2) then some (false, lk m A s) else (aD sh fr.2.1).bind fun x => bif !x.1 then some (false, lk m A s) else
   (qci n (f.1 :: (f.2.2.2.1 :: ([] : List (List (Int × Int)))))).bind fun K =>
      Sum.rec (fun H =>
       bif (Nat.ble (H.1.1 + H.1.2) (List.length H.2)) then
        (qy n fr.2.2.1 (List.take H.1.2 (List.drop H.1.1 H.2)) (lk m A s)).bind fun Z =>
        none
       else none) (fun M =>
       (qy n fr.2.2.1 M (lk m A s)).bind fun N =>
       some N) K := by
  unfold qam
  show (bif decide (fr.1 < 0) then _ else bif decide (fr.1 ≥ (m.funcs.length : Int)) then _ else bif decide (fr.2.1 < 0) then _ else ((aD m.funcs fr.1).bind fun x => bif decide (fr.2.1 ≥ aA x.2.2.2.2) then _ else ((aD A fr.1).bind fun y => (aD y fr.2.1).bind fun z => bif !z.1 then _ else ((aD m.funcs fr.1).bind fun _ => _)))) = _
  rw [decide_eq_false O, decide_eq_false V, gf, gm]; rfl
 have hS : ∀ k, aD s.1 k = some fr → decide (fr.2.1 < 0) = true ∨ decide (fr.2.1 ≥ aA f.2.2.2.2) = true ∨ (∃ x, aD sh fr.2.1 = some x ∧ x.1 = false) → qbs n m.recs m.funcs m.imps m.ints m.texts A s k = some ([], false) := by
  intro k J h
  unfold qbs
  rw [J, ya, decide_eq_false O, aC, decide_eq_false V, ye, ye, gf, gm]
  simp only [ya]
  rcases h with h | h | ⟨x, h, hx⟩
  ·rw [h]; rfl
  ·rw [h]; cases decide (fr.2.1 < 0) <;> rfl
  ·rw [h]
   simp only [ya, hx]
   cases decide (fr.2.1 < 0)
   case true => rfl
   cases decide (fr.2.1 ≥ aA f.2.2.2.2) <;> rfl
 by_cases Y : fr.2.1 < 0
 ·refine .inr ⟨by rw [hA, decide_eq_true Y]; rfl, fun k J => hS k J (.inl (decide_eq_true Y))⟩
 by_cases W : fr.2.1 ≥ aA f.2.2.2.2
 ·refine .inr ⟨by rw [hA, decide_eq_false Y, decide_eq_true W]; rfl, fun k J => hS k J (.inr (.inl (decide_eq_true W)))⟩
 rw [aC] at W
 obtain ⟨pk, hpk⟩ : ∃ pk : Nat, fr.2.1 = (pk : Int) := ⟨fr.2.1.toNat, by omega⟩
 obtain ⟨x, hx⟩ : ∃ x, sh[pk]? = some x := ⟨_, yd (by omega)⟩
 have gx : aD sh fr.2.1 = some x := by rw [hpk, aE]; exact hx
 cases hs : x.1 with
 | false =>
  refine .inr ⟨?_, fun k J => hS k J (.inr (.inr ⟨x, gx, hs⟩))⟩
  rw [hA, decide_eq_false Y, decide_eq_false (by rw [aC]; exact W), gx]
  simp only [ye, ya, hs]; rfl
 | true => exact .inl ⟨U, pk, f, sh, x, hfk, hpk, hf, hm, hx, hl, hok, hs⟩
end Sx
end
section
namespace Sx
open Go Go.Ab
theorem LY {m : aW} {f : iT} {i : B0} {s : List cQ} {pk : Int} (H : b9 m = 0) (hf : f ∈ m.funcs) (K : i ∈ f.2.2.2.2) (z : i.1 = 25) :
  ∃ h, aD m.funcs i.2.1 = some h ∧ ((eO m f i pk s).2.2 = 0 → h.1.length ≤ s.length) ∧ 0 ≤ i.2.1 ∧ i.2.1 < (m.funcs.length : Int) := by
 have hN := kJ H hf K
 have J := lV ((cX (cJ H).1).2.2.2.1 f hf |>.1 i K)
 obtain ⟨op, x, y⟩ := i
 simp only at z; subst z
 have hA : x < (m.funcs.length : Int) := of_decide_eq_true (show decide (x < aA m.funcs) = true from hN)
 obtain ⟨h, M⟩ := lC J.1 hA
 refine ⟨h, M, fun A => ?_, J.1, hA⟩
 have N : Br m f (25, x, y) s = (h.1, [(h.2.1, h.2.2.1)], true) := by
  unfold Br
  rw [show qda 10000 m.recs m.funcs m.imps m.ints m.texts f.1 f.2.1 f.2.2.1 f.2.2.2.1 f.2.2.2.2 25 x y s = ((aD m.funcs x).bind fun a => (aD m.funcs x).bind fun b => some (a.1, (((b.2.1, b.2.2.1) :: ([] : List (Int × Int))), true))) from rfl]
  rw [M]; rfl
 unfold eO mU at A
 rw [N] at A
 by_cases hl : s.length < h.1.length
 ·rw [if_pos (.inr (.inl hl))] at A; exact absurd A (by decide)
 ·omega
theorem L7 {m : aW} {f : iT} {sh : List dA} {k : Nat} {x : dA} {i : B0} (hx : sh[k]? = some x) (z : f.2.2.2.2[k]? = some i) (h : kO m f sh k = true) (h1 : x.1 = true) : (eO m f i (k : Int) x.2).2.2 = 0 ∧ x.2.length ≤ 8 := by
 unfold kO at h
 rw [hx, z] at h
 change By m f sh i (k : Int) x = true at h
 unfold By at h
 simp only [h1, yc, yy, decide_eq_false_iff_not, yw, yl3, beq_iff_eq] at h
 exact ⟨h.2.1, by omega⟩
section
variable {n : Nat} {m : aW} {maps : List (List dA)} {s : kW} {fr : Pd} {fk pk : Nat} {f : iT} {sh : List dA} {x : dA}
theorem Md (J : b9 m = 0) (H : iE s) (hn : 4000 ≤ n) (A : fr ∈ s.1) (h : Do m maps fr fk pk f sh x) :
  qam n fr.1 fr.2.1 fr.2.2.1 fr.2.2.2 (lk m maps s) = some (gP s fr.2.2.1 (f.1 ++ f.2.2.2.1), lk m maps s) := by
 have hk := cO h.hf
 have O := cO h.hx
 have hl := h.hl
 have hb := (cX (cJ J).1).2.2.2.1 f (yj h.hf)
 unfold qam
 show (bif decide (fr.1 < 0) then _ else bif decide (fr.1 ≥ (m.funcs.length : Int)) then _ else bif decide (fr.2.1 < 0) then _ else ((aD m.funcs fr.1).bind fun x => bif decide (fr.2.1 ≥ aA x.2.2.2.2) then _ else ((aD maps fr.1).bind fun y => (aD y fr.2.1).bind fun z => bif !z.1 then _ else ((aD m.funcs fr.1).bind fun _ => _)))) = _
 have N : aD m.funcs fr.1 = some f := by rw [h.h1, aE]; exact h.hf
 have M : aD maps fr.1 = some sh := by rw [h.h1, aE]; exact h.hm
 have K : aD sh fr.2.1 = some x := by rw [h.h2, aE]; exact h.hx
 have e1 := h.h1
 have e2 := h.h2
 rw [decide_eq_false (by omega), decide_eq_false (by omega), decide_eq_false (by omega), N, M]
 simp only [ye, ya, K, h.seen, yw]
 rw [decide_eq_false (by rw [aC]; omega), ye, FZ n f.1 f.2.2.2.1 (by omega) (by omega) (by omega)]
 show ((qy n fr.2.2.1 (f.1 ++ f.2.2.2.1) (lk m maps s)).bind fun r => some r) = _
 rw [zH n m maps s _ _ H (H.fl fr A).1 hn (H.sm.f fr A).1]; rfl
theorem Ea (N : iE s) {k : Nat} (H : s.1[k]? = some fr) (z : k + 1 = s.1.length) (h : Do m maps fr fk pk f sh x) :
  qbs n m.recs m.funcs m.imps m.ints m.texts maps s (k : Int) = some (x.2, true) := by
 have U := cO h.hf
 have O := cO h.hx
 have hl := h.hl
 have A := N.frames
 unfold qbs
 have M : aD m.funcs fr.1 = some f := by rw [h.h1, aE]; exact h.hf
 have K : aD maps fr.1 = some sh := by rw [h.h1, aE]; exact h.hm
 have J : aD sh fr.2.1 = some x := by rw [h.h2, aE]; exact h.hx
 have e1 := h.h1
 have e2 := h.h2
 rw [aE, H, ya, decide_eq_false (by omega), aC, decide_eq_false (by omega), decide_eq_false (by omega), M]
 simp only [ye, ya]
 rw [decide_eq_false (by rw [aC]; omega), K]
 simp only [ye, ya, J, h.seen, yw]
 rw [aC, bV (by omega) (by omega), show ((k : Int) == (s.1.length : Int) - 1) = true from beq_iff_eq.2 (by omega)]; rfl
theorem Km (hc : b9 m = 0) (hs : iE s) (hn : 4000 ≤ n) (hfr : fr ∈ s.1) {k : Nat} (hk : s.1[k]? = some fr) {g : Pd} (hg : s.1[k + 1]? = some g) (J : Do m maps fr fk pk f sh x) :
  ∃ (c : Bool) (ts : List cQ), (c = true → qbs n m.recs m.funcs m.imps m.ints m.texts maps s (k : Int) = some (ts, true)) ∧ (c = false → qbs n m.recs m.funcs m.imps m.ints m.texts maps s (k : Int) = some ([], false)) ∧
   qz n fr.1 fr.2.1 fr.2.2.1 fr.2.2.2 g.1 g.2.1 g.2.2.1 g.2.2.2 (lk m maps s) = some (c && gP s fr.2.2.2 ts, lk m maps s) := by
 have hk' := cO J.hf
 have hpk := cO J.hx
 have hl := J.hl
 have hkl := cO hg
 have hfl := hs.frames
 have gf : aD m.funcs fr.1 = some f := by rw [J.h1, aE]; exact J.hf
 have gm : aD maps fr.1 = some sh := by rw [J.h1, aE]; exact J.hm
 have gx : aD sh fr.2.1 = some x := by rw [J.h2, aE]; exact J.hx
 have e1 := J.h1
 have e2 := J.h2
 have hS : qbs n m.recs m.funcs m.imps m.ints m.texts maps s (k : Int) = bif fr.2.1 == 0 then some ([], false) else
   (aD sh (a8 .i64 fr.2.1 1)).bind fun V => bif !V.1 then some ([], false) else (aD f.2.2.2.2 (a8 .i64 fr.2.1 1)).bind fun M => bif M.1 != 25 then some ([], false) else
    bif M.2.1 != g.1 then some ([], false) else (aD sh (a8 .i64 fr.2.1 1)).bind fun H => (aD m.funcs M.2.1).bind fun K =>
     bif ((decide (0 ≤ (a8 .i64 (aA H.2) (aA K.1)))) && (decide ((a8 .i64 (aA H.2) (aA K.1)) ≤ (((List.length H.2) : Nat) : Int)))) then
      some ((List.take (Int.toNat (a8 .i64 (aA H.2) (aA K.1))) H.2), true)
     else none := by
  unfold qbs
  rw [aE, hk, ya, decide_eq_false (by omega), aC, decide_eq_false (by omega), decide_eq_false (by omega), gf]
  simp only [ye, ya]
  rw [decide_eq_false (by rw [aC]; omega), gm]
  simp only [ye, ya, gx, J.seen, yw]
  rw [aC, bV (by omega) (by omega), show ((k : Int) == (s.1.length : Int) - 1) = false from beq_eq_false_iff_ne.2 (by omega), aH (by omega), aE, hg]
  rfl
 have hB : qz n fr.1 fr.2.1 fr.2.2.1 fr.2.2.2 g.1 g.2.1 g.2.2.1 g.2.2.2 (lk m maps s) = bif decide (g.1 ≥ 0) then bif decide (g.1 < (m.funcs.length : Int)) then (bif fr.2.1 == 0 then some (false, lk m maps s) else
   (aD f.2.2.2.2 (a8 .i64 fr.2.1 1)).bind fun U => (aD sh (a8 .i64 fr.2.1 1)).bind fun A => bif U.1 != 25 then some (false, lk m maps s) else bif U.2.1 != g.1 then some (false, lk m maps s) else bif !A.1 then some (false, lk m maps s) else
    (aD m.funcs g.1).bind fun N =>
     bif ((decide (0 ≤ (a8 .i64 (aA A.2) (aA N.1)))) && (decide ((a8 .i64 (aA A.2) (aA N.1)) ≤ (((List.length A.2) : Nat) : Int)))) then
      (qy n fr.2.2.2 (List.take (Int.toNat (a8 .i64 (aA A.2) (aA N.1))) A.2) (lk m maps s)).bind fun Y =>
      some Y
     else none).bind (fun r => some r) else some (false, lk m maps s) else some (false, lk m maps s) := by
  unfold qz qn
  show (bif decide (g.1 ≥ 0) then bif decide (g.1 < (m.funcs.length : Int)) then (bif fr.2.1 == 0 then _ else (aD m.funcs fr.1).bind fun x => (aD x.2.2.2.2 (a8 .i64 fr.2.1 1)).bind fun y => (aD maps fr.1).bind fun z => _).bind _ else _ else _) = _
  rw [gf, gm]; rfl
 by_cases h0 : fr.2.1 = 0
 ·have b0 : (fr.2.1 == 0) = true := beq_iff_eq.2 h0
  refine ⟨false, [], fun h => (by cases h), fun _ => by rw [hS, b0]; rfl, ?_⟩
  rw [hB, b0]
  cases decide (g.1 ≥ 0) <;> cases decide (g.1 < (m.funcs.length : Int)) <;> rfl
 have b0 : (fr.2.1 == 0) = false := beq_eq_false_iff_ne.2 h0
 have hsub : a8 .i64 fr.2.1 1 = ((pk - 1 : Nat) : Int) := by
  have h64 := ((cX (cJ hc).1).2.2.2.1 f (yj J.hf)).2.1
  rw [bV (by omega) (by omega)]; omega
 obtain ⟨i', hi'⟩ : ∃ i, f.2.2.2.2[pk - 1]? = some i := ⟨_, yd (by omega)⟩
 obtain ⟨x', hx'⟩ : ∃ i, sh[pk - 1]? = some i := ⟨_, yd (by omega)⟩
 rw [hS, hB, b0, hsub, aE, aE, hi', hx']
 simp only [ye, ya]
 by_cases W : i'.1 = 25
 ·obtain ⟨h, hh, hlen, r0, r1⟩ := LY (s := x'.2) (pk := ((pk - 1 : Nat) : Int)) hc (yj J.hf) (yj hi') W
  have O : (i'.1 != 25) = false := by rw [W]; rfl
  by_cases hA : i'.2.1 = g.1
  ·have nA : (i'.2.1 != g.1) = false := by rw [hA]; simp
   rw [O, nA, hh, ← hA, hh, decide_eq_true r0, decide_eq_true r1]
   simp only [ye, yg, ya]
   cases hs' : x'.1 with
   | false => exact ⟨false, [], fun h => (by cases h), fun _ => rfl, rfl⟩
   | true =>
    have hok := N3 J.ok (k := pk - 1) (by omega)
    obtain ⟨hz, h8⟩ := L7 hx' hi' hok hs'
    have hle := hlen hz
    have Z : a8 .i64 (aA x'.2) (aA h.1) = ((x'.2.length - h.1.length : Nat) : Int) := by
     rw [aC, aC, bV (by omega) (by omega)]; omega
    refine ⟨true, x'.2.take (x'.2.length - h.1.length), fun _ => ?_, fun h => (by cases h), ?_⟩
    ·rw [Z, decide_eq_true (by omega), decide_eq_true (by omega)]; rfl
    ·rw [Z, decide_eq_true (by omega), decide_eq_true (by omega), yb1]
     simp only [yw, ye, yd2, yg]
     rw [zH n m maps s _ _ hs (hs.fl fr hfr).2 hn (hs.sm.f fr hfr).2]; rfl
  ·have nA : (i'.2.1 != g.1) = true := bne_iff_ne.2 hA
   refine ⟨false, [], fun h => (by cases h), fun _ => ?_, ?_⟩
   ·rw [O, nA]; cases x'.1 <;> rfl
   ·rw [O, nA]; cases decide (g.1 ≥ 0) <;> cases decide (g.1 < (m.funcs.length : Int)) <;> rfl
 ·have O : (i'.1 != 25) = true := bne_iff_ne.2 W
  refine ⟨false, [], fun h => (by cases h), fun _ => ?_, ?_⟩
  ·rw [O]; cases x'.1 <;> rfl
  ·rw [O]; cases decide (g.1 ≥ 0) <;> cases decide (g.1 < (m.funcs.length : Int)) <;> rfl
end
end Sx
end
section
namespace Sx
open Go Go.Ab
def M6 (m : aW) (maps : List (List dA)) (s : kW) (k : Nat) (b : Bool) : Prop :=
 ∃ fr, s.1[k]? = some fr ∧
 (k + 1 < s.1.length → ql_B0 10000 s.1 s.1 (aA s.1) (k : Int) (lk m maps s) = if (b && (!(k == 0) || fr.1 == 0)) = true then some (Sum.inl ((s.1, (s.1, (aA s.1, ((k + 1 : Nat) : Int)))), lk m maps s)) else some (Sum.inr (Sum.inl (false, (lk m maps s, fr))))) ∧
 (k + 1 = s.1.length → ql_B0 10000 s.1 s.1 (aA s.1) (k : Int) (lk m maps s) = some (Sum.inr (Sum.inl (b && (!(k == 0) || fr.1 == 0), (lk m maps s, fr))))) ∧
 (b = true → qch_B5 10000 maps (k : Int) m.recs m.funcs m.imps m.ints m.texts s = some (Sum.inl ((maps, ((k + 1 : Nat) : Int)), (aJ m, s)))) ∧
 (b = false → (∃ y, qch_B5 10000 maps (k : Int) m.recs m.funcs m.imps m.ints m.texts s = some (Sum.inr (Sum.inl (false, y)))) ∨ ∃ y, qch_B5 10000 maps (k : Int) m.recs m.funcs m.imps m.ints m.texts s = some (Sum.inr (Sum.inr (Sum.inl (false, y)))))
theorem P4 (k : Nat) : (((k : Int) == 0) : Bool) = (k == 0) := by
 cases k with
 | zero => rfl
 | succ k => exact (beq_eq_false_iff_ne.2 (by omega)).trans (beq_eq_false_iff_ne.2 (by omega)).symm
theorem rW {m : aW} {z : List (List dA)} {s : kW} (Z : iE s) {k : Nat} {fr : Pd} (O : s.1[k]? = some fr) {a : Bool} (U : qam 10000 fr.1 fr.2.1 fr.2.2.1 fr.2.2.2 (lk m z s) = some (a, lk m z s))
  {c : Bool} (hl : a = true → k + 1 = s.1.length → ∃ sh x, aD z fr.1 = some sh ∧ aD sh fr.2.1 = some x ∧ qy 10000 fr.2.2.2 x.2 (lk m z s) = some (c, lk m z s))
  (hn : a = true → k + 1 < s.1.length → ∃ g, s.1[k + 1]? = some g ∧ qz 10000 fr.1 fr.2.1 fr.2.2.1 fr.2.2.2 g.1 g.2.1 g.2.2.1 g.2.2.2 (lk m z s) = some (c, lk m z s)) :
  (k + 1 < s.1.length → ql_B0 10000 s.1 s.1 (aA s.1) (k : Int) (lk m z s) = if ((a && c) && (!(k == 0) || fr.1 == 0)) = true then some (Sum.inl ((s.1, (s.1, (aA s.1, ((k + 1 : Nat) : Int)))), lk m z s)) else some (Sum.inr (Sum.inl (false, (lk m z s, fr))))) ∧
  (k + 1 = s.1.length → ql_B0 10000 s.1 s.1 (aA s.1) (k : Int) (lk m z s) = some (Sum.inr (Sum.inl ((a && c) && (!(k == 0) || fr.1 == 0), (lk m z s, fr))))) := by
 have W := Z.frames
 have hkl := cO O
 have hU : ql_B0 10000 s.1 s.1 (aA s.1) (k : Int) (lk m z s) = bif !a then some (Sum.inr (Sum.inl (false, (lk m z s, fr)))) else
   (bif k == 0 then bif fr.1 != 0 then some (Sum.inr (Sum.inl (false, (lk m z s, fr)))) else
    bif ((k : Int) == (s.1.length : Int) - 1) then (aD z fr.1).bind fun M => (aD M fr.2.1).bind fun K => (qy 10000 fr.2.2.2 K.2 (lk m z s)).bind fun J => some (Sum.inr (Sum.inl (J.1, (J.2, fr))))
    else (s.1[k + 1]?).bind fun A => (qz 10000 fr.1 fr.2.1 fr.2.2.1 fr.2.2.2 A.1 A.2.1 A.2.2.1 A.2.2.2 (lk m z s)).bind fun H => bif !H.1 then some (Sum.inr (Sum.inl (false, (H.2, fr)))) else some (Sum.inl ((s.1, (s.1, (aA s.1, ((k + 1 : Nat) : Int)))), H.2))
   else
    bif ((k : Int) == (s.1.length : Int) - 1) then (aD z fr.1).bind fun M => (aD M fr.2.1).bind fun K => (qy 10000 fr.2.2.2 K.2 (lk m z s)).bind fun J => some (Sum.inr (Sum.inl (J.1, (J.2, fr))))
    else (s.1[k + 1]?).bind fun A => (qz 10000 fr.1 fr.2.1 fr.2.2.1 fr.2.2.2 A.1 A.2.1 A.2.2.1 A.2.2.2 (lk m z s)).bind fun H => bif !H.1 then some (Sum.inr (Sum.inl (false, (H.2, fr)))) else some (Sum.inl ((s.1, (s.1, (aA s.1, ((k + 1 : Nat) : Int)))), H.2))) := by
  unfold ql_B0
  rw [aC, decide_eq_true (by omega), yg, aE, O, ya, U, ya, P4, bV (by omega) (by omega), aH (by omega), aE]
  rfl
 rw [hU]
 cases a with
 | false => exact ⟨fun _ => rfl, fun _ => rfl⟩
 | true =>
  have N : (fr.1 != 0) = !(fr.1 == 0) := rfl
  refine ⟨fun h => ?_, fun h => ?_⟩
  ·obtain ⟨g, hg, e⟩ := hn rfl h
   rw [show ((k : Int) == (s.1.length : Int) - 1) = false from beq_eq_false_iff_ne.2 (by omega), hg, ya, e, N]
   cases k == 0 <;> cases fr.1 == 0 <;> cases c <;> rfl
  ·obtain ⟨sh, x, Y, V, e⟩ := hl rfl h
   rw [show ((k : Int) == (s.1.length : Int) - 1) = true from beq_iff_eq.2 (by omega), Y, ya, V, ya, e, N]
   cases k == 0 <;> cases fr.1 == 0 <;> cases c <;> rfl
theorem Dg {m : aW} {h : List (List dA)} {s : kW} (J : b9 m = 0) (z : iE s) {k : Nat} {fr : Pd} (A : s.1[k]? = some fr) {H : Nat} {f : iT} (U : fr.1 = (H : Int)) (hf : m.funcs[H]? = some f) {ts : List cQ}
  (hS : qbs 10000 m.recs m.funcs m.imps m.ints m.texts h s (k : Int) = some (ts, true)) :
  ((gP s fr.2.2.1 (f.1 ++ f.2.2.2.1) && gP s fr.2.2.2 ts) = true → qch_B5 10000 h (k : Int) m.recs m.funcs m.imps m.ints m.texts s = some (Sum.inl ((h, ((k + 1 : Nat) : Int)), (aJ m, s)))) ∧
  ((gP s fr.2.2.1 (f.1 ++ f.2.2.2.1) && gP s fr.2.2.2 ts) = false → (∃ y, qch_B5 10000 h (k : Int) m.recs m.funcs m.imps m.ints m.texts s = some (Sum.inr (Sum.inl (false, y)))) ∨ ∃ y, qch_B5 10000 h (k : Int) m.recs m.funcs m.imps m.ints m.texts s = some (Sum.inr (Sum.inr (Sum.inl (false, y))))) := by
 have M := z.frames
 have V := cO A
 have hm := yj A
 have hb := (cX (cJ J).1).2.2.2.1 f (yj hf)
 have O : aD m.funcs fr.1 = some f := by rw [U, aE]; exact hf
 have N := Kq 10000 s fr.2.2.2 ts z (z.fl fr hm).2 (by omega) (z.sm.f fr hm).2
 have K := Kq 10000 s fr.2.2.1 (f.1 ++ f.2.2.2.1) z (z.fl fr hm).1 (by omega) (z.sm.f fr hm).1
 have hU : qch_B5 10000 h (k : Int) m.recs m.funcs m.imps m.ints m.texts s = bif !gP s fr.2.2.2 ts then some (Sum.inr (Sum.inl (false, (aJ m, s)))) else bif !gP s fr.2.2.1 (f.1 ++ f.2.2.2.1) then some (Sum.inr (Sum.inr (Sum.inl (false, (aJ m, (s, (f, (f.1 ++ f.2.2.2.1)))))))) else
   some (Sum.inl ((h, ((k + 1 : Nat) : Int)), (aJ m, s))) := by
  unfold qch_B5
  rw [aC, decide_eq_true (by omega), yg, hS]
  simp only [ya, yw, ye]
  rw [aE, A]
  simp only [ya]
  rw [N, O]
  simp only [ya]
  rw [aU (by omega), aU (by simp; omega), K, aH (by omega)]
  rfl
 rw [hU]
 cases gP s fr.2.2.2 ts <;> cases gP s fr.2.2.1 (f.1 ++ f.2.2.2.1) <;> simp
theorem D2 {m : aW} {z : List (List dA)} {s : kW} (hR : fD m z = true) (M : b9 m = 0) (A : iE s) {k : Nat} (N : k < s.1.length) : ∃ b, M6 m z s k b := by
 obtain ⟨fr, hfr⟩ : ∃ fr, s.1[k]? = some fr := ⟨_, yd N⟩
 have W := A.frames
 have hm := yj hfr
 rcases k8 10000 m z s hR fr with ⟨fk, pk, f, sh, x, H⟩ | ⟨K, hS⟩
 ·have K := Md (n := 10000) M A (by omega) hm H
  by_cases J : k + 1 = s.1.length
  ·have hS := Ea (n := 10000) A hfr J H
   have h1 := rW A hfr K (c := gP s fr.2.2.2 x.2) (fun _ _ => ⟨sh, x, by rw [H.h1, aE]; exact H.hm, by rw [H.h2, aE]; exact H.hx, zH 10000 m z s _ _ A (A.fl fr hm).2 (by omega) (A.sm.f fr hm).2⟩) (fun _ h => by omega)
   have h2 := Dg M A hfr H.h1 H.hf hS
   exact ⟨_, fr, hfr, h1.1, h1.2, h2.1, h2.2⟩
  ·obtain ⟨g, hg⟩ : ∃ g, s.1[k + 1]? = some g := ⟨_, yd (by omega)⟩
   obtain ⟨c, ts, U, V, O⟩ := Km (n := 10000) M A (by omega) hm hfr hg H
   have h1 := rW A hfr K (c := c && gP s fr.2.2.2 ts) (fun _ h => absurd h J) (fun _ _ => ⟨g, hg, O⟩)
   cases c with
   | true =>
    have h2 := Dg M A hfr H.h1 H.hf (U rfl)
    rw [yu] at h1
    exact ⟨_, fr, hfr, h1.1, h1.2, h2.1, h2.2⟩
   | false =>
    rw [Bool.false_and, Bool.and_false] at h1
    refine ⟨false, fr, hfr, h1.1, h1.2, fun h => (by cases h), fun _ => .inl ⟨(aJ m, s), ?_⟩⟩
    unfold qch_B5
    rw [aC, decide_eq_true (by omega), yg, V rfl]; rfl
 ·have h1 := rW A hfr K (c := false) (fun h => (by cases h)) (fun h => (by cases h))
  refine ⟨false, fr, hfr, h1.1, h1.2, fun h => (by cases h), fun _ => .inl ⟨(aJ m, s), ?_⟩⟩
  unfold qch_B5
  rw [aC, decide_eq_true (by omega), yg, hS _ (by rw [aE]; exact hfr)]; rfl
end Sx
end
section
namespace Sx
open Go Go.Ab
theorem IY {m : aW} {z : List (List dA)} {s : kW} (hR : fD m z = true) (H : b9 m = 0) (J : iE s) : ∃ q : Nat → Bool, ∀ k, k < s.1.length → M6 m z s k (q k) := by
 classical
 refine ⟨fun k => if h : k < s.1.length then Classical.choose (D2 hR H J h) else false, fun k A => ?_⟩
 simp only [dif_pos A]
 exact Classical.choose_spec (D2 hR H J A)
theorem Ht {m : aW} {A : List (List dA)} {s : kW} (hR : fD m A = true) (hc : b9 m = 0) (Y : iE s) :
  ∃ b L, ql 10000 (lk m A s) = some (b, L) ∧
   ((bif (aA s.1 == 0) then some false else (aD s.1 0).bind fun x => bif x.1 != 0 then some false else (qch_W5 10000 ((A, 0), (aJ m, s))).bind fun r => Sum.rec (fun u => some u.1) (fun v => Sum.rec (fun u => some u.1) (fun _ => some true) v) r) : Option Bool) = some b := by
 obtain ⟨q, O⟩ := IY hR hc Y
 have hfl := Y.frames
 unfold ql
 show ∃ b L, ((ql_W0 10000 ((s.1, (s.1, (aA s.1, 0))), lk m A s)).bind fun r => _) = _ ∧ _
 by_cases h0 : s.1.length = 0
 ·have H : s.1 = [] := yp h0
  have : ql_W0 10000 ((s.1, (s.1, (aA s.1, 0))), lk m A s) = some (Sum.inr (lk m A s)) := by
   refine bG (n := 9999) (B := fun s => ql_B0 10000 s.1.1 s.1.2.1 s.1.2.2.1 s.1.2.2.2 s.2) ?_
   show ql_B0 10000 s.1 s.1 (aA s.1) 0 (lk m A s) = _
   unfold ql_B0
   rw [H]; rfl
  refine ⟨false, lk m A s, by rw [this]; rfl, by rw [H]; rfl⟩
 ·obtain ⟨f0, hf0⟩ : ∃ f, s.1[0]? = some f := ⟨_, yd (by omega)⟩
  have hz : (aA s.1 == 0) = false := beq_eq_false_iff_ne.2 (by rw [aC]; omega)
  have W : aD s.1 0 = some f0 := (aE s.1 0).trans hf0
  rw [hz, W]
  have hL := FS (B := fun s => ql_B0 10000 s.1.1 s.1.2.1 s.1.2.2.1 s.1.2.2.2 s.2) (mk := fun (i : Nat) => ((s.1, (s.1, (aA s.1, (i : Int)))), lk m A s)) (q := fun k => q k && (!(k == 0) || f0.1 == 0))
   (found := fun i b => Sum.inl (b, (lk m A s, s.1.getD i f0))) (k := s.1.length) (fun i K => by
    obtain ⟨fr, h1, h2, _⟩ := O i (by omega)
    have J : s.1.getD i f0 = fr := by rw [yl, h1]; rfl
    rw [J]
    have M : (q i && (!(i == 0) || fr.1 == 0)) = (q i && (!(i == 0) || f0.1 == 0)) := by
     cases i with
     | zero => rw [hf0] at h1; rw [yb h1]
     | succ i => rfl
    exact (h2 K).trans (by rw [M]))
   (fun i K => by
    obtain ⟨fr, h1, _, h2, _⟩ := O i (by omega)
    have J : s.1.getD i f0 = fr := by rw [yl, h1]; rfl
    rw [J]
    have M : (q i && (!(i == 0) || fr.1 == 0)) = (q i && (!(i == 0) || f0.1 == 0)) := by
     cases i with
     | zero => rw [hf0] at h1; rw [yb h1]
     | succ i => rfl
    exact (h2 K).trans (by rw [M])) (s.1.length - 1) 0 10000 (by omega) (by omega)
  obtain ⟨i', b, e, M⟩ := hL
  refine ⟨b, lk m A s, by rw [show ql_W0 10000 ((s.1, (s.1, (aA s.1, 0))), lk m A s) = _ from e]; rfl, ?_⟩
  simp only [ye, ya]
  by_cases hf : f0.1 = 0
  ·rw [show (f0.1 != 0) = false from by rw [hf]; rfl, ye]
   have N : b = true ↔ ∀ t, 0 ≤ t → t < s.1.length → q t = true := M.trans ⟨fun h t a c => by have := h t a c; rw [yc] at this; exact this.1, fun h t a c => by rw [h t a c, hf]; simp⟩
   have h5 := IN (B := fun s => qch_B5 10000 s.1.1 s.1.2 s.2.1.1 s.2.1.2.1 s.2.1.2.2.1 s.2.1.2.2.2.1 s.2.1.2.2.2.2 s.2.2) (mk := fun (i : Nat) => ((A, (i : Int)), (aJ m, s))) (q := q)
    (bad := fun y => (∃ z, y = Sum.inl (false, z)) ∨ ∃ z, y = Sum.inr (Sum.inl (false, z))) (e := Sum.inr (Sum.inr (aJ m, s))) (k := s.1.length) (fun i K ht => by
     obtain ⟨fr, _, _, _, h1, _⟩ := O i K
     exact h1 ht) (fun i K ht => by
     obtain ⟨fr, _, _, _, _, h1⟩ := O i K
     rcases h1 ht with ⟨y, h⟩ | ⟨y, h⟩
     ·exact ⟨_, h, .inl ⟨y, rfl⟩⟩
     ·exact ⟨_, h, .inr ⟨y, rfl⟩⟩) (by
     show qch_B5 10000 A (s.1.length : Int) m.recs m.funcs m.imps m.ints m.texts s = _
     unfold qch_B5
     rw [aC, decide_eq_false (by omega), ye]) s.1.length 0 10000 (by omega) (by omega)
   rcases h5 with ⟨U, V⟩ | ⟨U, y, V, Z⟩
   ·rw [show qch_W5 10000 ((A, 0), (aJ m, s)) = _ from V, N.2 U]; rfl
   ·have : b = false := by
     cases b with
     | false => rfl
     | true => exact absurd (N.1 rfl) U
    rw [show qch_W5 10000 ((A, 0), (aJ m, s)) = _ from V, this]
    rcases Z with ⟨z, rfl⟩ | ⟨z, rfl⟩ <;> rfl
  ·rw [show (f0.1 != 0) = true from bne_iff_ne.2 hf, yg]
   have : b = false := by
    cases b with
    | false => rfl
    | true =>
     have := M.1 rfl 0 (by omega) (by omega)
     rw [yc] at this
     exact absurd (beq_iff_eq.1 (by simpa using this.2)) hf
   rw [this]
theorem wZ {A B : Type} (a : List A) (b : List B) (ha : a.length ≤ 300) (hb : b.length ≤ 300) : (aI .i64 (aA a) (aA b) == 0) = (aA a == 0 && aA b == 0) := by
 rw [aC, aC, cK (by omega) (by omega)]
 cases h : a.length with
 | zero => simp
 | succ n =>
  rw [beq_eq_false_iff_ne.2 (by omega : ((n + 1 : Nat) : Int) + (b.length : Int) ≠ 0), beq_eq_false_iff_ne.2 (by omega : ((n + 1 : Nat) : Int) ≠ 0)]; rfl
theorem Kv {m : aW} {h : List (List dA)} {s : kW} (hR : fD m h = true) (hc : b9 m = 0) (z : iE s) :
  ∃ b, qdg 10000 m.recs m.funcs m.imps m.ints m.texts h s = some b ∧ qch 10000 m.recs m.funcs m.imps m.ints m.texts h s = some b := by
 have V := z.frames
 have N := z.heap
 have K := Ip 10000 m h s z (by omega)
 have J := KE 10000 m h s z (by omega)
 have U := KL 10000 m h s z (by omega)
 obtain ⟨bf, L, hF, hG⟩ := Ht hR hc z
 -- the program's
 have hP : qdg 10000 m.recs m.funcs m.imps m.ints m.texts h s = some (bif !dC m s then false else bif decide ((s.1.length : Int) > 8) then false else bif s.2.2.2.2.2.1 != 0 then (aA s.1 == 0 && (aA s.2.1 == 0 && (s.2.2.2.2.2.2 == 0 || s.2.2.2.2.2.1 == 1))) else (s.2.2.2.2.2.2 == 0 && bf)) := by
  unfold qdg
  rw [show qu 10000 (m.recs, (m.funcs, (m.imps, (m.ints, (m.texts, (h, s)))))) = _ from K, ya, wZ _ _ V N, aC]
  simp only
  rw [hF]
  cases dC m s
  case false => rfl
  cases decide ((s.1.length : Int) > 8)
  case true => rfl
  cases s.2.2.2.2.2.1 != 0
  case false => cases s.2.2.2.2.2.2 == 0 <;> rfl
  cases ((s.1.length : Int) == 0) <;> cases (aA s.2.1 == 0) <;> cases s.2.2.2.2.2.2 == 0 <;> rfl
 refine ⟨_, hP, ?_⟩
 unfold qch
 rw [show qch_W0 10000 ((h, 0), ((m.recs, (m.funcs, (m.imps, (m.ints, m.texts)))), s)) = _ from J]
 -- numbers
 by_cases c1 : s.2.2.2.1 < 0
 ·rw [decide_eq_true c1]
  have : dC m s = false := by unfold dC qD; rw [decide_eq_false (by omega : ¬ s.2.2.2.1 ≥ 0)]; rfl
  rw [this]; rfl
 rw [decide_eq_false c1]
 by_cases c2 : s.2.2.2.1 > 65536
 ·rw [decide_eq_true c2]
  have : dC m s = false := by unfold dC qD; rw [decide_eq_false (by omega : ¬ s.2.2.2.1 ≤ 65536)]; simp
  rw [this]; rfl
 rw [decide_eq_false c2]
 by_cases Z : s.2.2.2.2.1 < 0
 ·rw [decide_eq_true Z]
  have : dC m s = false := by unfold dC qD; rw [decide_eq_false (by omega : ¬ s.2.2.2.2.1 ≥ 0)]; simp
  rw [this]; rfl
 rw [decide_eq_false Z]
 by_cases c4 : s.2.2.2.2.1 > s.2.2.2.1
 ·rw [decide_eq_true c4]
  have : dC m s = false := by unfold dC qD; rw [decide_eq_false (by omega : ¬ s.2.2.2.2.1 ≤ s.2.2.2.1)]; simp
  rw [this]; rfl
 rw [decide_eq_false c4]
 by_cases c5 : s.2.2.2.2.2.1 < 0
 ·rw [decide_eq_true c5]
  have : dC m s = false := by unfold dC qD; rw [decide_eq_false (by omega : ¬ s.2.2.2.2.2.1 ≥ 0)]; simp
  rw [this]; rfl
 rw [decide_eq_false c5]
 by_cases Y : s.2.2.2.2.2.1 > 7
 ·rw [decide_eq_true Y]
  have : dC m s = false := by unfold dC qD; rw [decide_eq_false (by omega : ¬ s.2.2.2.2.2.1 ≤ 7)]; simp
  rw [this]; rfl
 rw [decide_eq_false Y, aC, aC]
 rw [decide_eq_false (by omega : ¬ (s.2.1.length : Int) > 4096)]
 by_cases W : (s.2.2.1.length : Int) > 16
 ·rw [decide_eq_true W]
  have : dC m s = false := by unfold dC qD; rw [decide_eq_false (by omega : ¬ (s.2.2.1.length : Int) ≤ 16)]; simp
  rw [this]; rfl
 rw [decide_eq_false W, aC]
 have A : qD s = true := by
  unfold qD
  rw [decide_eq_true (by omega : s.2.2.2.1 ≥ 0), decide_eq_true (by omega : s.2.2.2.1 ≤ 65536), decide_eq_true (by omega : s.2.2.2.2.1 ≥ 0), decide_eq_true (by omega : s.2.2.2.2.1 ≤ s.2.2.2.1), decide_eq_true (by omega : s.2.2.2.2.2.1 ≥ 0), decide_eq_true (by omega : s.2.2.2.2.2.1 ≤ 7), decide_eq_true (by omega : (s.2.1.length : Int) ≤ 4096), decide_eq_true (by omega : (s.2.2.1.length : Int) ≤ 16)]; rfl
 have M : dC m s = (!(s.2.2.1.any s6) && s.2.1.all (qI m s)) := by unfold dC; rw [A, yu]
 rw [M]
 simp only [ye]
 cases decide ((s.1.length : Int) > 8)
 case true => cases s.2.2.1.any s6 <;> cases s.2.1.all (qI m s) <;> rfl
 cases s.2.2.1.any s6
 case true => rfl
 simp only [ye, ya]
 rcases U with ⟨O, H⟩ | ⟨O, o, H⟩
 ·show ((qch_W2 10000 ((h, 0), (aJ m, s))).bind fun r => _) = _
  rw [H, O]
  simp only [ya, yx2, yu, yw, ye]
  cases he : s.2.2.2.2.2.1 != 0
  case true =>
   simp only [yg]
   change (bif (aA s.1 == 0) then (bif (aA s.2.1 == 0) then (bif (s.2.2.2.2.2.2 == 0) then some true else some (s.2.2.2.2.2.1 == 1)) else some false) else some false) = some (aA s.1 == 0 && (aA s.2.1 == 0 && (s.2.2.2.2.2.2 == 0 || s.2.2.2.2.2.1 == 1)))
   cases aA s.1 == 0 <;> cases aA s.2.1 == 0 <;> cases s.2.2.2.2.2.2 == 0 <;> rfl
  simp only [ye]
  rw [show (s.2.2.2.2.2.2 != 0) = !(s.2.2.2.2.2.2 == 0) from rfl]
  cases s.2.2.2.2.2.2 == 0
  case false => rfl
  simp only [yw, ye, yu]
  exact hG
 ·show ((qch_W2 10000 ((h, 0), (aJ m, s))).bind fun r => _) = _
  rw [H, O]; rfl
end Sx
end
section
set_option maxRecDepth 100000
namespace Sx
open Go Go.Ab
theorem IP {α : Type} (a : Option α) : Go.Ab.amb a a = a := by unfold Go.Ab.amb; rw [if_pos rfl]
theorem Oy : qbj 10000 [] = some [] := IP _
theorem OX : qbh 10000 [] = some [] := IP _
def lF : kW := ([(0, (0, ([0], [])))], ([], ([], (100, (0, (0, 0))))))
theorem PF : wR lF := by
 refine ⟨by simp [lF], fun x hx => ?_, fun x hx => ?_⟩
 ·have : x = (0, (0, ([0], []))) := by simpa [lF] using hx
  subst this; simp
 ·simp [lF] at hx
theorem N4 : qar 10000 lF.1 = some lF.1 := by
 have h : qar_B0q0 10000 lF.1 1 0 [] = some (Sum.inl (Sum.inr ((lF.1, (1, 1)), lF.1))) := by
  unfold qar_B0q0
  rw [show decide ((0 : Int) < 1) = true from rfl, yg, show aD lF.1 0 = some (0, (0, ([0], []))) from rfl, ya, Oy]
  rfl
 show ((qar_W0 10000 (Sum.inl ((lF.1, (1, 0)), []))).bind fun r => _) = _
 have e : qar_W0 10000 (Sum.inl ((lF.1, (1, 0)), [])) = some (Sum.inr lF.1) := (bM (n := 9999) h).trans (bG (n := 9998) rfl)
 rw [e]; rfl
theorem OR : qbw 10000 ([] : List (List ((Int) × Int))) ((([] : List ((Int) × Int)), (1, (0, (((1, 0) :: ([] : List ((Int) × Int))), ((0, (0, 0)) :: ((26, (0, 0)) :: ([] : List ((Int) × (Int) × Int)))))))) :: ([] : List ((List ((Int) × Int)) × (Int) × (Int) × (List ((Int) × Int)) × List ((Int) × (Int) × Int)))) ([] : List ((List ((Int) × Int)) × (Int) × Int)) (7 :: ([] : List Int)) ([] : List ByteArray) 100 = some ((lF.1, (100, (0, (0, 0)))), 0) := by kernel_rfl
theorem AU : qaz 10000 = some true := by
 unfold qaz
 rw [OR, ya]
 have H : qcn 10000 lF.1 [] [] 100 0 0 0 = some lF := by
  unfold qcn
  rw [N4, ya, OX]; rfl
 have J := Of (n := 10000) (a := lF) (b := lF) (PF.fine (by omega))
 show ((qcn 10000 lF.1 [] [] 100 0 0 0).bind fun h => (qcv 10000 lF.1 [] [] 100 0 0 0 h.1 h.2.1 h.2.2.1 h.2.2.2.1 h.2.2.2.2.1 h.2.2.2.2.2.1 h.2.2.2.2.2.2).bind fun A => some A) = _
 rw [H, ya]
 exact (congrArg (fun z => Option.bind z fun r => some r) J).trans (by simp)
end Sx
end
section
set_option maxRecDepth 100000
namespace Sx
open Go Go.Ab
theorem vU (m : aW) (J : Fh m) (z : List (List dA)) (s : kW) (H : iE s) :
  ∃ b, stateTyped 10000 m.recs m.funcs m.imps m.ints m.texts z s = some b ∧ (fD m z = false → b = false) ∧ (fD m z = true → qch 10000 m.recs m.funcs m.imps m.ints m.texts z s = some b) := by
 unfold stateTyped
 rw [qbr_eq m J z, ya]
 cases hR : fD m z with
 | false => exact ⟨false, rfl, fun _ => rfl, fun h => by cases h⟩
 | true =>
  have A : b9 m = 0 := jS (by unfold fD at hR; rw [yc] at hR; exact hR.1)
  obtain ⟨b, h1, h2⟩ := Kv hR A H
  exact ⟨b, by rw [h1]; rfl, fun h => (by cases h), fun _ => h2⟩
theorem HU (m : aW) (A : Fh m) (hl : MD m) (h : List (List dA)) (s : kW) (N : Nj s) (H : wR s → iE s) : gZ 10000 m.recs m.funcs m.imps m.ints m.texts h s = some true := by
 unfold gZ
 obtain ⟨x, e, hL⟩ := qY 10000 m hl (by omega)
 rw [e, ya, AU, aC]
 cases x with
 | false => rfl
 | true =>
  simp only [yw, ye]
  by_cases z : (h.length : Int) > 10
  ·rw [decide_eq_true z]; rfl
  ·rw [decide_eq_false z, ye]
   obtain ⟨y, J, K⟩ := OV 10000 s N (by omega)
   rw [show qbq 10000 s.1 s.2.1 s.2.2.1 s.2.2.2.1 s.2.2.2.2.1 s.2.2.2.2.2.1 s.2.2.2.2.2.2 = _ from J, ya]
   cases y with
   | false => rfl
   | true =>
    obtain ⟨b, h1, h2, M⟩ := vU m A h s (H (K rfl))
    simp only [yw, ye]
    rw [HY m A (hL rfl) h, ya, h1]
    cases hR : fD m h with
    | false => rw [h2 hR]; rfl
    | true =>
     rw [M hR]
     show some (b == b) = _
     simp
end Sx
end
section
namespace Sx
open Go Go.Ab
abbrev QH : Ty := .cons (.int .i64) (.int .i64)
abbrev Rh : Ty := .cons (.int .i64) (.cons (.int .i64) (.int .i64))
end Sx
end
section
namespace Sx
open Go Go.Ab
abbrev GG : Ty := .sl true QH
abbrev QU : Ty := .cons GG (.cons (.int .i64) (.cons (.int .i64) (.cons GG (.sl true Rh))))
abbrev QS : Ty := .cons GG (.cons (.int .i64) (.int .i64))
def NU : Sh := .agg (.cons (.sl true false GG) (.cons (.sl true true QU) (.cons (.sl true true QS) (.cons (.sl true false (.int .u64)) (.cons (.sl true false .str) .nil)))))
abbrev MJ := List (List cQ) × List iT × List Mw × List Int × List ByteArray
def I6 (d : MJ) : aW := ⟨d.1, d.2.1, d.2.2.1, d.2.2.2.1, d.2.2.2.2⟩
theorem OS {t : cQ} (h : kV QH t) : PM t := ⟨Aj h.1, Aj h.2⟩
theorem kC {l : List cQ} (h : kV GG l) : JM l ∧ l.length ≤ 140737488351232 := ⟨fun t ht => OS (h.2 t ht), h.1⟩
theorem sZ {d : MJ} (h : mO NU d) : Fh (I6 d) ∧ MD (I6 d) := by
 obtain ⟨h1, h2, h3, h4, h5, _⟩ : kV (.sl false GG) d.1 ∧ kV (.sl true QU) d.2.1 ∧ kV (.sl true QS) d.2.2.1 ∧ kV (.sl false (.int .u64)) d.2.2.2.1 ∧ kV (.sl false .str) d.2.2.2.2 ∧ True := h
 obtain ⟨l1, O⟩ := h1
 obtain ⟨Y, Z⟩ := h2
 obtain ⟨l3, e3⟩ := h3
 obtain ⟨l4, U⟩ := h4
 obtain ⟨l5, V⟩ := h5
 have N : ∀ f ∈ d.2.1, kV GG f.1 ∧ kV (.int .i64) f.2.1 ∧ kV (.int .i64) f.2.2.1 ∧ kV GG f.2.2.2.1 ∧ f.2.2.2.2.length ≤ reachBytes := fun f hf => by
  obtain ⟨z, A, H, J, K⟩ := Z f hf
  exact ⟨z, A, H, J, K.1⟩
 have M : ∀ f ∈ d.2.2.1, kV GG f.1 ∧ kV (.int .i64) f.2.1 ∧ kV (.int .i64) f.2.2 := e3
 refine ⟨⟨fun l hl => (kC (O l hl)).1, fun f hf => ?_, fun f hf => ?_, fun v W => Gr (U v W)⟩, ⟨l1, Y, l3, l4, l5, fun l hl => (kC (O l hl)).2, fun f hf => ?_, fun f hf => ?_, V⟩⟩
 ·obtain ⟨z, A, H, J, K⟩ := N f hf
  exact ⟨(kC z).1, ⟨Aj A, Aj H⟩, (kC J).1⟩
 ·obtain ⟨z, A, H⟩ := M f hf
  exact ⟨(kC z).1, ⟨Aj A, Aj H⟩⟩
 ·obtain ⟨z, A, H, J, K⟩ := N f hf
  exact ⟨(kC z).2, (kC J).2, K⟩
 ·exact (kC (M f hf).1).2
end Sx
end
section
namespace Sx
open Go Go.Ab
abbrev x5 : Ty := .sl false (.int .u64)
abbrev QG : Ty := .cons (.int .i64) (.cons (.int .i64) (.cons x5 x5))
abbrev Qr : Ty := .cons (.int .i64) (.cons (.int .i64) (.cons x5 (.sl false (.int .u8))))
abbrev P3 : Ty := .cons (.int .i64) (.cons (.int .u64) .bool)
def PP : Sh := .agg (.cons (.sl true true QG) (.cons (.sl true true Qr) (.cons (.sl true true P3) (.cons (.int .i64) (.cons (.int .i64) (.cons (.int .i64) (.cons (.int .u64) .nil)))))))
theorem OW {d : kW} (h : mO PP d) : Nj d := by
 obtain ⟨⟨l1, e1⟩, ⟨l2, e2⟩, ⟨l3, e3⟩, q, u, e, v, _⟩ : kV (.sl true QG) d.1 ∧ kV (.sl true Qr) d.2.1 ∧ kV (.sl true P3) d.2.2.1 ∧ kV (.int .i64) d.2.2.2.1 ∧ kV (.int .i64) d.2.2.2.2.1 ∧ kV (.int .i64) d.2.2.2.2.2.1 ∧ kV (.int .u64) d.2.2.2.2.2.2 ∧ True := h
 have A : ∀ x ∈ d.1, kV (.int .i64) x.1 ∧ kV (.int .i64) x.2.1 ∧ kV x5 x.2.2.1 ∧ kV x5 x.2.2.2 := e1
 have z : ∀ x ∈ d.2.1, kV (.int .i64) x.1 ∧ kV (.int .i64) x.2.1 ∧ kV x5 x.2.2.1 ∧ kV (.sl false (.int .u8)) x.2.2.2 := e2
 refine ⟨l1, l2, l3, fun x hx => ?_, fun x hx => ?_⟩
 ·obtain ⟨_, _, ⟨c, _⟩, ⟨k, _⟩⟩ := A x hx
  exact ⟨c, k⟩
 ·obtain ⟨_, _, ⟨c, _⟩, ⟨k, _⟩⟩ := z x hx
  exact ⟨c, k⟩
end Sx
end
section
namespace Sx
open Go Go.Ab
abbrev Rc : Ty := .cons .bool (.sl true QH)
def JW : Sh := .sl true false (.sl true Rc)
theorem NZ {d : kW} (h : mO PP d) : wR d → iE d := fun H => by
 obtain ⟨⟨_, e1⟩, ⟨_, e2⟩, _⟩ : kV (.sl true QG) d.1 ∧ kV (.sl true Qr) d.2.1 ∧ _ := h
 have J : ∀ x ∈ d.1, kV (.int .i64) x.1 ∧ kV (.int .i64) x.2.1 ∧ kV x5 x.2.2.1 ∧ kV x5 x.2.2.2 := e1
 have A : ∀ x ∈ d.2.1, kV (.int .i64) x.1 ∧ kV (.int .i64) x.2.1 ∧ kV x5 x.2.2.1 ∧ kV (.sl false (.int .u8)) x.2.2.2 := e2
 refine ⟨H, fun x hx => ?_, fun x hx => ?_⟩
 ·obtain ⟨_, _, ⟨_, a⟩, ⟨_, b⟩⟩ := J x hx
  exact ⟨fun v z => Gr (a v z), fun v z => Gr (b v z)⟩
 ·obtain ⟨_, _, ⟨_, a⟩, _⟩ := A x hx
  exact fun v z => Gr (a v z)
theorem HA (d : MJ × List (List dA) × kW) (hf : mO (.cons NU (.cons JW (.cons PP .nil))) d) : ∃ n, gZ n d.1.1 d.1.2.1 d.1.2.2.1 d.1.2.2.2.1 d.1.2.2.2.2 d.2.1 d.2.2 = some true := by
 obtain ⟨h1, _, h3, _⟩ : mO NU d.1 ∧ mO JW d.2.1 ∧ mO PP d.2.2 ∧ True := hf
 exact ⟨10000, HU (I6 d.1) (sZ (d := d.1) h1).1 (sZ (d := d.1) h1).2 _ _ (OW h3) (NZ h3)⟩
end Sx
end
