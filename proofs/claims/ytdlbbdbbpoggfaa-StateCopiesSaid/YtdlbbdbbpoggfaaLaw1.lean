/- Plain laws. -/
import Derived.Test.YtdlbbdbbpoggfaaScSh
import Derived.Test.YtdlbbdbbpoggfaaLib9
import Derived.Test.YtdlbbdbbpoggfaaLib33
set_option linter.unusedVariables false
set_option linter.unusedSimpArgs false
section
namespace Sx
open Go Go.Ab
theorem zlR {S X A : Type} {B : S → Option (S ⊕ X)} {xs ys : List A} {mk : Nat → S} {t : A → A → Bool} {bad : A → A → X} {fin : X} (hlen : xs.length = ys.length) (ht : ∀ x y, t x y = true ↔ x = y)
  (hs : ∀ i x y, xs[i]? = some x → ys[i]? = some y → B (mk i) = some (bif t x y then .inl (mk (i + 1)) else .inr (bad x y))) (he : B (mk xs.length) = some (.inr fin)) :
  ∀ (j i n : Nat), i + j = xs.length → j < n → xs.take i = ys.take i → (xs = ys ∧ loopS B n (mk i) = some fin) ∨ (xs ≠ ys ∧ ∃ x y, loopS B n (mk i) = some (bad x y))
 | _, _, 0, _, h, _ => by omega
 | 0, i, n + 1, hi, _, hp => by
  obtain rfl : i = xs.length := by omega
  refine .inl ⟨?_, zaW he⟩
  rw [yx2] at hp
  rw [hp, hlen, yx2]
 | j + 1, i, n + 1, hi, hn, hp => by
  have h1 : i < xs.length := by omega
  have h2 : i < ys.length := by omega
  have hx : xs[i]? = some xs[i] := yf h1
  have hy : ys[i]? = some ys[i] := yf h2
  have hb := hs i _ _ hx hy
  cases hc : t xs[i] ys[i] with
  | true =>
   rw [hc] at hb
   rw [zbS hb]
   refine zlR hlen ht hs he j (i + 1) n (by omega) (by omega) ?_
   rw [List.take_add_one, List.take_add_one, hp, hx, hy, (ht _ _).1 hc]
  | false =>
   rw [hc] at hb
   refine .inr ⟨fun e => ?_, _, _, zaW hb⟩
   have : t xs[i] ys[i] = true := by
    rw [ht]
    subst e; rfl
   rw [hc] at this; cases this
theorem zaC {S X A : Type} {B : S → Option (S ⊕ X)} {xs ys : List A} {mk : Nat → S} {t : A → A → Bool} {bad : A → A → X} {fin : X} (hlen : xs.length = ys.length) (ht : ∀ x y, t x y = true ↔ x = y)
  (hs : ∀ i x y, xs[i]? = some x → ys[i]? = some y → B (mk i) = some (bif t x y then .inl (mk (i + 1)) else .inr (bad x y))) (he : B (mk xs.length) = some (.inr fin)) {n : Nat} (hn : xs.length < n) :
  (xs = ys ∧ loopS B n (mk 0) = some fin) ∨ (xs ≠ ys ∧ ∃ x y, loopS B n (mk 0) = some (bad x y)) := zlR hlen ht hs he xs.length 0 n (by omega) hn rfl
theorem zaB {A : Type} {xs : List A} {i : Nat} {x : A} (hb : xs.length < 4294967296) (h : xs[i]? = some x) : addI .i64 (i : Int) 1 = ((i + 1 : Nat) : Int) := zT (by have := zaA h; omega)
theorem zci {A : Type} {xs : List A} {i : Nat} {x : A} (h : xs[i]? = some x) : decide ((i : Int) < lenI xs) = true := by
 have := zaA h; rw [zg]; simp; omega
theorem zaD {A : Type} {xs : List A} : decide (((xs.length : Nat) : Int) < lenI xs) = false := by rw [zg]; simp
theorem zce {A : Type} {xs ys : List A} (h : (lenI xs != lenI ys) = true) : xs ≠ ys := by
 rintro rfl; simp at h
theorem zco {A : Type} {xs ys : List A} (h : (lenI xs != lenI ys) = false) : xs.length = ys.length := by
 have : lenI xs = lenI ys := by simpa using h
 rw [zg, zg] at this; omega
theorem zhF {n : Nat} {a b : List Int} (h : a.length < n) (hb : a.length < 4294967296) : qap n a b = some (decide (a = b)) := by
 unfold qap
 cases hl : (lenI a != lenI b) with
 | true => simp only [yg]; rw [decide_eq_false (zce hl)]
 | false =>
  simp only [yh]
  unfold qap_W0
  rcases zaC (B := fun s => qap_B0 n s.1 s.2.1 s.2.2.1 s.2.2.2) (mk := fun i => (a, (b, (lenI a, (i : Int))))) (t := fun x y => !(x != y)) (bad := fun _ _ => Sum.inl false) (fin := Sum.inr ()) (zco hl) (fun x y => by simp)
   (fun i x y hx hy => by simp only [qap_B0, zci hx, yg, zA, hx, hy, yc, zaB hb hx]; cases (x != y) <;> rfl)
   (by simp only [qap_B0, zaD, yh]) h with ⟨he, hr⟩ | ⟨he, x, y, hr⟩
  ·erw [hr]; rw [decide_eq_true he]; rfl
  ·erw [hr]; rw [decide_eq_false he]; rfl
theorem zoK {n : Nat} {a b : List Int} (h : a.length < n) (hb : a.length < 4294967296) : qbl n a b = some (decide (a = b)) := by
 unfold qbl
 cases hl : (lenI a != lenI b) with
 | true => simp only [yg]; rw [decide_eq_false (zce hl)]
 | false =>
  simp only [yh]
  unfold qbl_W0
  rcases zaC (B := fun s => qbl_B0 n s.1 s.2.1 s.2.2.1 s.2.2.2) (mk := fun i => (a, (b, (lenI a, (i : Int))))) (t := fun x y => !(x != y)) (bad := fun _ _ => Sum.inl false) (fin := Sum.inr ()) (zco hl) (fun x y => by simp)
   (fun i x y hx hy => by simp only [qbl_B0, zci hx, yg, zA, hx, hy, yc, zaB hb hx]; cases (x != y) <;> rfl)
   (by simp only [qbl_B0, zaD, yh]) h with ⟨he, hr⟩ | ⟨he, x, y, hr⟩
  ·erw [hr]; rw [decide_eq_true he]; rfl
  ·erw [hr]; rw [decide_eq_false he]; rfl
theorem zgf {n : Nat} {a b : List Int} (h : a.length < n) (hb : a.length < 4294967296) : qaw n a b = some (decide (a = b)) := by
 unfold qaw
 cases hl : (lenI a != lenI b) with
 | true => simp only [yg]; rw [decide_eq_false (zce hl)]
 | false =>
  simp only [yh]
  unfold qaw_W0
  rcases zaC (B := fun s => qaw_B0 n s.1 s.2.1 s.2.2) (mk := fun i => (a, (b, (i : Int)))) (t := fun x y => !(x != y)) (bad := fun _ _ => Sum.inl false) (fin := Sum.inr ()) (zco hl) (fun x y => by simp)
   (fun i x y hx hy => by simp only [qaw_B0, zci hx, yg, zA, hx, hy, yc, zaB hb hx]; cases (x != y) <;> rfl)
   (by simp only [qaw_B0, zaD, yh]) h with ⟨he, hr⟩ | ⟨he, x, y, hr⟩
  ·erw [hr]; rw [decide_eq_true he]; rfl
  ·erw [hr]; rw [decide_eq_false he]; rfl
theorem zoT {n : Nat} {a b : List Int} (h : a.length < n) (hb : a.length < 4294967296) : qbk n a b = some (decide (a = b)) := by
 unfold qbk
 cases hl : (lenI a != lenI b) with
 | true => simp only [yg]; rw [decide_eq_false (zce hl)]
 | false =>
  simp only [yh]
  unfold qbk_W0
  rcases zaC (B := fun s => qbk_B0 n s.1 s.2.1 s.2.2) (mk := fun i => (a, (b, (i : Int)))) (t := fun x y => !(x != y)) (bad := fun _ _ => Sum.inl false) (fin := Sum.inr ()) (zco hl) (fun x y => by simp)
   (fun i x y hx hy => by simp only [qbk_B0, zci hx, yg, zA, hx, hy, yc, zaB hb hx]; cases (x != y) <;> rfl)
   (by simp only [qbk_B0, zaD, yh]) h with ⟨he, hr⟩ | ⟨he, x, y, hr⟩
  ·erw [hr]; rw [decide_eq_true he]; rfl
  ·erw [hr]; rw [decide_eq_false he]; rfl
theorem zqe {n : Nat} {a b : List (Int × Int × Bool)} (h : a.length < n) (hb : a.length < 4294967296) : qak n a b = some (decide (a = b)) := by
 unfold qak
 cases hl : (lenI a != lenI b) with
 | true => simp only [yg]; rw [decide_eq_false (zce hl)]
 | false =>
  simp only [yh]
  unfold qak_W0
  rcases zaC (B := fun s => qak_B0 n s.1 s.2.1 s.2.2.1 s.2.2.2) (mk := fun i => (a, (b, (lenI a, (i : Int))))) (t := fun x y => (x.1 == y.1) && ((x.2.1 == y.2.1) && (x.2.2 == y.2.2))) (bad := fun _ _ => Sum.inl false) (fin := Sum.inr ()) (zco hl) (fun x y => by simp [Prod.ext_iff])
   (fun i x y hx hy => by simp only [qak_B0, zci hx, yg, zA, hx, hy, yc, zaB hb hx]; cases ((x.1 == y.1) && ((x.2.1 == y.2.1) && (x.2.2 == y.2.2))) <;> rfl)
   (by simp only [qak_B0, zaD, yh]) h with ⟨he, hr⟩ | ⟨he, x, y, hr⟩
  ·erw [hr]; rw [decide_eq_true he]; rfl
  ·erw [hr]; rw [decide_eq_false he]; rfl
theorem zpK {n : Nat} {a b : List (Int × Int × Bool)} (h : a.length < n) (hb : a.length < 4294967296) : qbj n a b = some (decide (a = b)) := by
 unfold qbj
 cases hl : (lenI a != lenI b) with
 | true => simp only [yg]; rw [decide_eq_false (zce hl)]
 | false =>
  simp only [yh]
  unfold qbj_W0
  rcases zaC (B := fun s => qbj_B0 n s.1 s.2.1 s.2.2) (mk := fun i => (a, (b, (i : Int)))) (t := fun x y => (x.1 == y.1) && ((x.2.1 == y.2.1) && (x.2.2 == y.2.2))) (bad := fun _ _ => Sum.inl false) (fin := Sum.inr ()) (zco hl) (fun x y => by simp [Prod.ext_iff])
   (fun i x y hx hy => by simp only [qbj_B0, zci hx, yg, zA, hx, hy, yc, zaB hb hx]; cases ((x.1 == y.1) && ((x.2.1 == y.2.1) && (x.2.2 == y.2.2))) <;> rfl)
   (by simp only [qbj_B0, zaD, yh]) h with ⟨he, hr⟩ | ⟨he, x, y, hr⟩
  ·erw [hr]; rw [decide_eq_true he]; rfl
  ·erw [hr]; rw [decide_eq_false he]; rfl
theorem zpr {n : Nat} {x y : Int × Int × List Int × List Int} (h1 : x.2.2.1.length < n ∧ x.2.2.1.length < 4294967296) (h2 : x.2.2.2.length < n ∧ x.2.2.2.length < 4294967296) :
  qz n x.1 x.2.1 x.2.2.1 x.2.2.2 y.1 y.2.1 y.2.2.1 y.2.2.2 = some (decide (x = y)) := by
 obtain ⟨x1, x2, x3, x4⟩ := x
 obtain ⟨y1, y2, y3, y4⟩ := y
 simp only [qz, zhF h1.1 h1.2, zhF h2.1 h2.2, yc, Prod.mk.injEq]
 have b1 : (x1 == y1) = decide (x1 = y1) := rfl
 have b2 : (x2 == y2) = decide (x2 = y2) := rfl
 rw [b1, b2]
 by_cases e1 : x1 = y1 <;> by_cases e2 : x2 = y2 <;> by_cases e3 : x3 = y3 <;> by_cases e4 : x4 = y4 <;> simp [e1, e2, e3, e4]
theorem zqy {n : Nat} {x y : Int × Int × List Int × List Int} (h1 : x.2.2.1.length < n ∧ x.2.2.1.length < 4294967296) (h2 : x.2.2.2.length < n ∧ x.2.2.2.length < 4294967296) :
  qbi n x.1 x.2.1 x.2.2.1 x.2.2.2 y.1 y.2.1 y.2.2.1 y.2.2.2 = some (decide (x = y)) := by
 obtain ⟨x1, x2, x3, x4⟩ := x
 obtain ⟨y1, y2, y3, y4⟩ := y
 simp only [qbi, zhF h1.1 h1.2, zoK h2.1 h2.2, yc, Prod.mk.injEq]
 have b1 : (x1 == y1) = decide (x1 = y1) := rfl
 have b2 : (x2 == y2) = decide (x2 = y2) := rfl
 rw [b1, b2]
 by_cases e1 : x1 = y1 <;> by_cases e2 : x2 = y2 <;> by_cases e3 : x3 = y3 <;> by_cases e4 : x4 = y4 <;> simp [e1, e2, e3, e4]
def Fine (n : Nat) (l : List (Int × Int × List Int × List Int)) : Prop := (l.length < n ∧ l.length < 4294967296) ∧ ∀ x ∈ l, (x.2.2.1.length < n ∧ x.2.2.1.length < 4294967296) ∧ x.2.2.2.length < n ∧ x.2.2.2.length < 4294967296
theorem zos {n : Nat} {a b : List (Int × Int × List Int × List Int)} (h : Fine n a) : qv n a b = some (decide (a = b)) := by
 have hb := h.1.2
 unfold qv
 cases hl : (lenI a != lenI b) with
 | true => simp only [yg]; rw [decide_eq_false (zce hl)]
 | false =>
  simp only [yh]
  unfold qv_W0
  rcases zaC (B := fun s => qv_B0 n s.1 s.2.1 s.2.2.1 s.2.2.2) (mk := fun i => (b, (a, (lenI a, (i : Int))))) (t := fun x y => decide (x = y)) (bad := fun x y => Sum.inl (false, (x, y))) (fin := Sum.inr ()) (zco hl) (fun x y => by simp)
   (fun i x y hx hy => by
    have hxm := h.2 x (yj hx)
    simp only [qv_B0, zci hx, yg, zA, hx, hy, yc, zpr hxm.1 hxm.2, zaB hb hx]
    cases decide (x = y) <;> rfl)
   (by simp only [qv_B0, zaD, yh]) h.1.1 with ⟨he, hr⟩ | ⟨he, x, y, hr⟩
  ·erw [hr]; rw [decide_eq_true he]; rfl
  ·erw [hr]; rw [decide_eq_false he]; rfl
theorem zqf {n : Nat} {a b : List (Int × Int × List Int × List Int)} (h : Fine n a) : qaf n a b = some (decide (a = b)) := by
 have hb := h.1.2
 unfold qaf
 cases hl : (lenI a != lenI b) with
 | true => simp only [yg]; rw [decide_eq_false (zce hl)]
 | false =>
  simp only [yh]
  unfold qaf_W0
  rcases zaC (B := fun s => qaf_B0 n s.1 s.2.1 s.2.2.1 s.2.2.2) (mk := fun i => (b, (a, (lenI a, (i : Int))))) (t := fun x y => decide (x = y)) (bad := fun x y => Sum.inl (false, (x, y))) (fin := Sum.inr ()) (zco hl) (fun x y => by simp)
   (fun i x y hx hy => by
    have hxm := h.2 x (yj hx)
    simp only [qaf_B0, zci hx, yg, zA, hx, hy, yc, zqy hxm.1 hxm.2, zaB hb hx]
    cases decide (x = y) <;> rfl)
   (by simp only [qaf_B0, zaD, yh]) h.1.1 with ⟨he, hr⟩ | ⟨he, x, y, hr⟩
  ·erw [hr]; rw [decide_eq_true he]; rfl
  ·erw [hr]; rw [decide_eq_false he]; rfl
end Sx
end
section
set_option synthInstance.maxSize 2000
set_option synthInstance.maxHeartbeats 400000
namespace Sx
open Go Go.Ab
theorem zjX (a b : Int) : (a != b) = !decide (a = b) := rfl
theorem zpm {n : Nat} {a b : List (Int × Int × List Int × List Int)} (h : Fine n a) : qbm n a b = some (decide (a = b)) := by
 have hb := h.1.2
 unfold qbm
 cases hl : (lenI a != lenI b) with
 | true => simp only [yg]; rw [decide_eq_false (zce hl)]
 | false =>
  simp only [yh]
  unfold qbm_W0
  rcases zaC (B := fun s => qbm_B0 n s.1 s.2.1 s.2.2) (mk := fun i => (a, (b, (i : Int)))) (t := fun x y => decide (x = y)) (bad := fun x y => Sum.inl false) (fin := Sum.inr ()) (zco hl) (fun x y => by simp)
   (fun i x y hx hy => by
    have hxm := h.2 x (yj hx)
    simp only [qbm_B0, zci hx, yg, zA, hx, hy, yc, zgf hxm.1.1 hxm.1.2, zoT hxm.2.1 hxm.2.2, zaB hb hx, zjX]
    obtain ⟨x1, x2, x3, x4⟩ := x
    obtain ⟨y1, y2, y3, y4⟩ := y
    by_cases e1 : x1 = y1 <;> by_cases e2 : x2 = y2 <;> by_cases e3 : x3 = y3 <;> by_cases e4 : x4 = y4 <;> simp [e1, e2, e3, e4])
   (by simp only [qbm_B0, zaD, yh]) h.1.1 with ⟨he, hr⟩ | ⟨he, x, y, hr⟩
  ·erw [hr]; rw [decide_eq_true he]; rfl
  ·erw [hr]; rw [decide_eq_false he]; rfl
abbrev TyS := List (Int × Int × List Int × List Int) × List (Int × Int × List Int × List Int) × List (Int × Int × Bool) × Int × Int × Int × Int
def FineS (n : Nat) (a : TyS) : Prop := Fine n a.1 ∧ Fine n a.2.1 ∧ a.2.2.1.length < n ∧ a.2.2.1.length < 4294967296
theorem zkN {n : Nat} {a b : TyS} (h : FineS n a) : qbs n a.1 a.2.1 a.2.2.1 a.2.2.2.1 a.2.2.2.2.1 a.2.2.2.2.2.1 a.2.2.2.2.2.2 b.1 b.2.1 b.2.2.1 b.2.2.2.1 b.2.2.2.2.1 b.2.2.2.2.2.1 b.2.2.2.2.2.2 = some (decide (a = b)) := by
 obtain ⟨h1, h2, h3, h4⟩ := h
 obtain ⟨a1, a2, a3, a4, a5, a6, a7⟩ := a
 obtain ⟨b1, b2, b3, b4, b5, b6, b7⟩ := b
 simp only at h1 h2 h3 h4
 have e (x y : Int) : (x == y) = decide (x = y) := rfl
 simp only [qbs, zos h1, zqf h2, zqe h3 h4, yc, e, Prod.mk.injEq]
 by_cases e1 : a1 = b1 <;> by_cases e2 : a2 = b2 <;> by_cases e3 : a3 = b3 <;> by_cases e4 : a4 = b4 <;> by_cases e5 : a5 = b5 <;> by_cases e6 : a6 = b6 <;> by_cases e7 : a7 = b7 <;> simp [e1, e2, e3, e4, e5, e6, e7]
theorem zkA {n : Nat} {a b : TyS} (h : Fine n a.1) (hlen : a.1.length = b.1.length) :
  (a.1 = b.1 ∧ qam_W0 n (0, (a, b)) = some (Sum.inr (a, b))) ∨ (a.1 ≠ b.1 ∧ ∃ r, qam_W0 n (0, (a, b)) = some (Sum.inl r) ∧ r.1 = false) := by
 have hb := h.1.2
 unfold qam_W0
 rcases zaC (B := fun s => qam_B0 n s.1 s.2.1.1 s.2.1.2.1 s.2.1.2.2.1 s.2.1.2.2.2.1 s.2.1.2.2.2.2.1 s.2.1.2.2.2.2.2.1 s.2.1.2.2.2.2.2.2 s.2.2.1 s.2.2.2.1 s.2.2.2.2.1 s.2.2.2.2.2.1 s.2.2.2.2.2.2.1 s.2.2.2.2.2.2.2.1 s.2.2.2.2.2.2.2.2)
   (mk := fun i => ((i : Int), (a, b))) (t := fun x y => decide (x = y)) (bad := fun x y => Sum.inl (false, (a, (b, (x, y))))) (fin := Sum.inr (a, b)) (xs := a.1) (ys := b.1) hlen (fun x y => by simp)
   (fun i x y hx hy => by
    have hxm := h.2 x (yj hx)
    simp only [qam_B0, zci hx, yg, zA, hx, hy, yc, zgf hxm.1.1 hxm.1.2, zgf hxm.2.1 hxm.2.2, zaB hb hx, zjX]
    obtain ⟨x1, x2, x3, x4⟩ := x
    obtain ⟨y1, y2, y3, y4⟩ := y
    by_cases e1 : x1 = y1 <;> by_cases e2 : x2 = y2 <;> by_cases e3 : x3 = y3 <;> by_cases e4 : x4 = y4 <;> simp [e1, e2, e3, e4])
   (by simp only [qam_B0, zaD, yh]) h.1.1 with ⟨he, hr⟩ | ⟨he, x, y, hr⟩
 ·exact .inl ⟨he, hr⟩
 ·exact .inr ⟨he, _, hr, rfl⟩
theorem zeQ {n : Nat} {a b : TyS} (h : FineS n a) : qam n a.1 a.2.1 a.2.2.1 a.2.2.2.1 a.2.2.2.2.1 a.2.2.2.2.2.1 a.2.2.2.2.2.2 b.1 b.2.1 b.2.2.1 b.2.2.2.1 b.2.2.2.2.1 b.2.2.2.2.2.1 b.2.2.2.2.2.2 = some (decide (a = b)) := by
 obtain ⟨h1, h2, h3, h4⟩ := h
 unfold qam
 cases hl : (lenI a.1 != lenI b.1) with
 | true =>
  simp only [yg]
  rw [decide_eq_false (fun e => zce hl (congrArg Prod.fst e))]
 | false =>
  simp only [yh, zjX]
  have hloop := zkA (n := n) (a := a) (b := b) h1 (zco hl)
  have key : ∀ q : Option ((Bool × TyS × TyS × (Int × Int × List Int × List Int) × Int × Int × List Int × List Int) ⊕ (TyS × TyS)), qam_W0 n (0, (a, b)) = q → True := fun _ _ => trivial
  obtain ⟨a1, a2, a3, a4, a5, a6, a7⟩ := a
  obtain ⟨b1, b2, b3, b4, b5, b6, b7⟩ := b
  simp only at h1 h2 h3 h4 hloop ⊢
  rcases hloop with ⟨e1, hr⟩ | ⟨e1, r, hr, hrf⟩
  ·simp only [hr, yc, zpm h2, zpK h3 h4, Prod.mk.injEq]
   by_cases e2 : a2 = b2 <;> by_cases e3 : a3 = b3 <;> by_cases e4 : a4 = b4 <;> by_cases e5 : a5 = b5 <;> by_cases e6 : a6 = b6 <;> by_cases e7 : a7 = b7 <;> simp [e1, e2, e3, e4, e5, e6, e7]
  ·simp only [hr, yc, hrf, Prod.mk.injEq]
   by_cases e4 : a4 = b4 <;> by_cases e5 : a5 = b5 <;> by_cases e6 : a6 = b6 <;> by_cases e7 : a7 = b7 <;> simp [e1, e4, e5, e6, e7]
end Sx
end
section
namespace Sx
open Go Go.Ab
abbrev FrD := Int × Int × List Int × List Int
abbrev StD := TyS
structure LenSt (s : StD) : Prop where
 n1 : s.1.length ≤ 140737488351232
 n2 : s.2.1.length ≤ 140737488351232
 n3 : s.2.2.1.length ≤ 140737488351232
 f : ∀ x ∈ s.1, x.2.2.1.length ≤ 140737488351232 ∧ x.2.2.2.length ≤ 140737488351232
 o : ∀ x ∈ s.2.1, x.2.2.1.length ≤ 140737488351232 ∧ x.2.2.2.length ≤ 140737488351232
structure SmallS (s : StD) : Prop where
 n : s.1.length + s.2.1.length + s.2.2.1.length ≤ 300
 f : ∀ x ∈ s.1, x.2.2.1.length ≤ 3000 ∧ x.2.2.2.length ≤ 3000
 o : ∀ x ∈ s.2.1, x.2.2.1.length ≤ 3000 ∧ x.2.2.2.length ≤ 3000
theorem zcD {a b : Int} (h1 : 0 ≤ a) (h2 : 0 ≤ b) (h3 : a + b ≤ 9000000000000000000) : addI .i64 a b = a + b := zmh (by omega) (by omega)
theorem zlu {S X A : Type} {B : S → Option (S ⊕ X)} {xs : List A} {mk : Nat → Int → S} {f : A → Nat} {e : Int → X} {c : Nat} {base : Int} (hb : 0 ≤ base) (hc : ∀ x ∈ xs, f x ≤ c) (hcap : base + (c : Int) * (xs.length : Int) ≤ 9000000000000000000)
  (hs : ∀ i a x, xs[i]? = some x → x ∈ xs → 0 ≤ a → a + (f x : Int) ≤ 9000000000000000000 → B (mk i a) = some (.inl (mk (i + 1) (a + (f x : Int))))) (he : ∀ a, B (mk xs.length a) = some (.inr (e a))) {n : Nat} (hn : xs.length < n) :
  ∃ a, loopS B n (mk 0 base) = some (e a) ∧ base ≤ a ∧ a ≤ base + (c : Int) * (xs.length : Int) ∧ ∀ x ∈ xs, (f x : Int) ≤ a := by
 have h := zlo (B := B) (xs := xs) (mk := mk) (I := fun i a => base ≤ a ∧ a ≤ base + (c : Int) * (i : Int) ∧ ∀ x ∈ xs.take i, (f x : Int) ≤ a) (Q := fun y => ∃ a, y = e a ∧ base ≤ a ∧ a ≤ base + (c : Int) * (xs.length : Int) ∧ ∀ x ∈ xs, (f x : Int) ≤ a)
  (fun i a x hx hI => ?_) (fun a hI => ?_) xs.length 0 n base (by omega) ⟨Int.le_refl _, by simp, by simp⟩ hn
 ·obtain ⟨y, h1, a, rfl, h2⟩ := h
  exact ⟨a, h1, h2⟩
 ·have hi := zaA hx
  have hm := yj hx
  have hcx := hc x hm
  obtain ⟨h1, h2, h3⟩ := hI
  have hmul : (c : Int) * (i : Int) + (c : Int) ≤ (c : Int) * (xs.length : Int) := by
   have : (c * (i + 1) : Nat) ≤ c * xs.length := Nat.mul_le_mul_left c hi
   rw [Nat.mul_succ] at this
   have h := Int.ofNat_le.2 this
   simpa using h
  have hsucc : (c : Int) * ((i + 1 : Nat) : Int) = (c : Int) * (i : Int) + (c : Int) := by
   rw [Int.natCast_add, Int.mul_add]; simp
  refine .inl ⟨_, hs i a x hx hm (by omega) (by omega), by omega, by rw [hsucc]; omega, fun z hz => ?_⟩
  rw [List.take_add_one, hx, yl1] at hz
  rcases hz with hz | hz
  ·have := h3 z hz; omega
  ·simp at hz; subst hz; omega
 ·obtain ⟨h1, h2, h3⟩ := hI
  rw [yx2] at h3
  exact ⟨_, he a, a, rfl, h1, h2, h3⟩
theorem small14 (n : Nat) (s : StD) (hl : LenSt s) (hn : 1000 ≤ n) : ∃ x, qba n s.1 s.2.1 s.2.2.1 s.2.2.2.1 s.2.2.2.2.1 s.2.2.2.2.2.1 s.2.2.2.2.2.2 = some x ∧ (x = true → SmallS s) := by
 unfold qba
 have n1 := hl.n1
 have n2 := hl.n2
 have n3 := hl.n3
 have hs : addI .i64 (addI .i64 (lenI s.2.1) (lenI s.2.2.1)) (lenI s.1) = ((s.1.length + s.2.1.length + s.2.2.1.length : Nat) : Int) := by
  simp only [zg]
  rw [zcD (b := ((s.2.2.1.length : Nat) : Int)) (by omega) (by omega) (by omega), zcD (b := ((s.1.length : Nat) : Int)) (by omega) (by omega) (by omega)]
  omega
 rw [hs]
 by_cases h3 : s.1.length + s.2.1.length + s.2.2.1.length > 300
 ·rw [decide_eq_true (by omega), yg]
  exact ⟨false, rfl, fun h => by cases h⟩
 ·rw [decide_eq_false (by omega), yh]
  have h0 := zlu (B := fun s => qba_B0 n s.1.1 s.1.2 s.2.1 s.2.2.1 s.2.2.2.1 s.2.2.2.2.1 s.2.2.2.2.2.1 s.2.2.2.2.2.2.1 s.2.2.2.2.2.2.2) (xs := s.2.1) (mk := fun i a => ((a, (i : Int)), s)) (f := fun x => x.2.2.1.length + x.2.2.2.length) (e := fun a => (a, s))
   (c := 281474976702464) (base := ((s.1.length + s.2.1.length + s.2.2.1.length : Nat) : Int)) (by omega) (fun x hx => by have := hl.o x hx; omega) (by omega) (fun i a x hx hm ha hb => by
    have hi := zaA hx
    have hlx := hl.o x hm
    show qba_B0 n a (i : Int) s.1 s.2.1 s.2.2.1 s.2.2.2.1 s.2.2.2.2.1 s.2.2.2.2.2.1 s.2.2.2.2.2.2 = _
    unfold qba_B0
    rw [zg, decide_eq_true (by omega), yg, zA, hx, yc, yc, zg, zg, zcD (b := ((x.2.2.1.length : Nat) : Int)) (by omega) (by omega) (by omega), zcD (b := ((x.2.2.2.length : Nat) : Int)) (by omega) (by omega) (by omega), zT (by omega)]
    rw [show a + ((x.2.2.1.length + x.2.2.2.length : Nat) : Int) = a + (x.2.2.1.length : Int) + (x.2.2.2.length : Int) by omega]) (fun a => by
    show qba_B0 n a (s.2.1.length : Int) s.1 s.2.1 s.2.2.1 s.2.2.2.1 s.2.2.2.2.1 s.2.2.2.2.2.1 s.2.2.2.2.2.2 = _
    unfold qba_B0
    rw [zg, decide_eq_false (by omega), yh]) (n := n) (by omega)
  obtain ⟨a, e0, a1, a2, a3⟩ := h0
  have h1 := zlu (B := fun s => qba_B2 n s.1.1 s.1.2 s.2.1 s.2.2.1 s.2.2.2.1 s.2.2.2.2.1 s.2.2.2.2.2.1 s.2.2.2.2.2.2.1 s.2.2.2.2.2.2.2) (xs := s.1) (mk := fun i a => ((a, (i : Int)), s)) (f := fun x => x.2.2.1.length + x.2.2.2.length) (e := fun a => (a, s))
   (c := 281474976702464) (base := a) (by omega) (fun x hx => by have := hl.f x hx; omega) (by omega) (fun i a x hx hm ha hb => by
    have hi := zaA hx
    have hlx := hl.f x hm
    show qba_B2 n a (i : Int) s.1 s.2.1 s.2.2.1 s.2.2.2.1 s.2.2.2.2.1 s.2.2.2.2.2.1 s.2.2.2.2.2.2 = _
    unfold qba_B2
    rw [zg, decide_eq_true (by omega), yg, zA, hx, yc, yc, zg, zg, zcD (b := ((x.2.2.1.length : Nat) : Int)) (by omega) (by omega) (by omega), zcD (b := ((x.2.2.2.length : Nat) : Int)) (by omega) (by omega) (by omega), zT (by omega)]
    rw [show a + ((x.2.2.1.length + x.2.2.2.length : Nat) : Int) = a + (x.2.2.1.length : Int) + (x.2.2.2.length : Int) by omega]) (fun a => by
    show qba_B2 n a (s.1.length : Int) s.1 s.2.1 s.2.2.1 s.2.2.2.1 s.2.2.2.2.1 s.2.2.2.2.2.1 s.2.2.2.2.2.2 = _
    unfold qba_B2
    rw [zg, decide_eq_false (by omega), yh]) (n := n) (by omega)
  obtain ⟨b, e1, b1, b2, b3⟩ := h1
  refine ⟨decide (b < 3000), ?_, fun h => ?_⟩
  ·refine (congrArg (fun q => Option.bind q _) e0).trans ?_
   rw [yc]
   refine (congrArg (fun q => Option.bind q _) e1).trans ?_
   rfl
  ·have hb := of_decide_eq_true h
   exact ⟨by omega, fun x hx => by have := b3 x hx; omega, fun x hx => by have := a3 x hx; omega⟩
theorem SmallS.fine {s : StD} (h : SmallS s) {n : Nat} (hn : 4000 ≤ n) : FineS n s := by
 have h1 := h.n
 exact ⟨⟨⟨by omega, by omega⟩, fun x hx => by have := h.f x hx; exact ⟨⟨by omega, by omega⟩, by omega, by omega⟩⟩, ⟨⟨by omega, by omega⟩, fun x hx => by have := h.o x hx; exact ⟨⟨by omega, by omega⟩, by omega, by omega⟩⟩, by omega, by omega⟩
end Sx
end
section
namespace Sx
open Go Go.Ab
theorem zlC {A : Type} (m : List A) (a : A) : (m ++ [a])[m.length]? = some a := by simp
theorem zmb {A : Type} (m : List A) (a b : A) : (m ++ [a]).set m.length b = m ++ [b] := by simp
theorem zE {n m : Nat} (h : n ≤ m) : Nat.ble n m = true := Nat.ble_eq_true_of_le h
theorem zhz {α : Type} (a : Option α) : Go.Ab.amb a a = a := by unfold Go.Ab.amb; rw [if_pos rfl]
theorem cloneU {n : Nat} {a : List Int} (h : a.length ≤ 4294967296) : qaq n a = some a := by
 unfold qaq
 cases a with
 | nil => simp only [List.isEmpty, yg, yb3]; exact zhz (some [])
 | cons x a => simp only [List.isEmpty, yh, mostLen, zE h, yg]
theorem cloneB {n : Nat} {a : List Int} (h : a.length ≤ 4294967296) : qbo n a = some a := by
 unfold qbo
 cases a with
 | nil => simp only [List.isEmpty, yg, yb3]; exact zhz (some [])
 | cons x a => simp only [List.isEmpty, yh, mostLen, zE h, yg]
theorem cloneH {n : Nat} {a : List (Int × Int × Bool)} (h : a.length ≤ 4294967296) : qas n a = some a := by
 unfold qas
 cases a with
 | nil => simp only [List.isEmpty, yg, yb3]; exact zhz (some [])
 | cons x a => simp only [List.isEmpty, yh, mostLen, zE h, yg]
theorem zfA {A : Type} (a : List A) : ((decide (0 ≤ (lenI a))) && (decide ((lenI a) ≤ (((List.length a) : Nat) : Int)))) = true ∧ ((decide (0 ≤ (lenI a))) && (decide ((lenI a) ≤ (((Int.toNat (lenI a)) : Nat) : Int)))) = true ∧ Int.toNat (lenI a) - 0 = a.length := by
 rw [zg]
 refine ⟨?_, ?_, ?_⟩
 ·simp
 ·simp
 ·omega
theorem clipU {n : Nat} (a : List Int) : qav n a = some ((0, a.length), a) := by
 obtain ⟨h1, h2, h3⟩ := zfA a
 simp only [qav, h1, h2, h3, yg]
theorem clipB {n : Nat} (a : List Int) : qbt n a = some ((0, a.length), a) := by
 obtain ⟨h1, h2, h3⟩ := zfA a
 simp only [qbt, h1, h2, h3, yg]
theorem clipH {n : Nat} (a : List (Int × Int × Bool)) : qbg n a = some ((0, a.length), a) := by
 obtain ⟨h1, h2, h3⟩ := zfA a
 simp only [qbg, h1, h2, h3, yg]
theorem clipF {n : Nat} (a : List FrD) : qbp n a = some ((0, a.length), a) := by
 obtain ⟨h1, h2, h3⟩ := zfA a
 simp only [qbp, h1, h2, h3, yg]
theorem clipO {n : Nat} (a : List FrD) : qce n a = some ((0, a.length), a) := by
 obtain ⟨h1, h2, h3⟩ := zfA a
 simp only [qce, h1, h2, h3, yg]
theorem zpe {n : Nat} {x1 x2 : Int} {x3 x4 : List Int} (h3 : x3.length ≤ 4294967296) (h4 : x4.length ≤ 4294967296) : qbf n x1 x2 x3 x4 = some ((x1, (x2, ((0, x3.length), (0, x4.length)))), (x3, x4)) := by
 simp only [qbf, cloneU h3, cloneB h4, clipU, clipB, yc]
theorem zfL {A : Type} (l : List A) : l.take l.length = l := yx2
theorem qbv_step {n i : Nat} {l m : List FrD} {x : FrD} (hx : l[i]? = some x) (hi : i < 4000000000) (hm : m.length ≤ 4000000000) (h : x.2.2.1.length ≤ 4294967296 ∧ x.2.2.2.length ≤ 4294967296) :
  qbv_B0 n l (lenI l) (i : Int) m = some (Sum.inl ((l, (lenI l, ((i + 1 : Nat) : Int))), m ++ [x])) := by
 unfold qbv_B0
 obtain ⟨x1, x2, x3, x4⟩ := x
 have hlt := zaA hx
 rw [zg, decide_eq_true (by omega), yg, zA, hx]
 simp only [yc, zpe h.1 h.2, zlC, zmb, zfL, mostLen, yi1, yh2, yb3]
 rw [zE (by omega), zT (by omega)]
 simp only [yg, yq2, zE (yx _), show Nat.beq 0 0 = true from rfl]
theorem qbv_eq {n : Nat} {l : List FrD} (hl : l.length ≤ 3000) (hn : 4000 ≤ n) (h : ∀ x ∈ l, x.2.2.1.length ≤ 3000 ∧ x.2.2.2.length ≤ 3000) : qbv n l = some l := by
 unfold qbv qbv_W0
 have := (zgl (B := fun s => qbv_B0 n s.1.1 s.1.2.1 s.1.2.2 s.2) (xs := l) (mk := fun i a => ((l, (lenI l, (i : Int))), a)) (f := fun a x => a ++ [x]) (e := fun a => a) (I := fun i a => a.length = i)
  (fun i a x hx hI => ⟨by
   have hh := h x (yj hx)
   have hlt := zaA hx
   exact qbv_step hx (by omega) (show a.length ≤ 4000000000 by have : a.length = i := hI; omega) ⟨by omega, by omega⟩, by simp [hI]⟩)
  (fun a hI => by simp only [qbv_B0, zaD, yh]) l.length 0 n [] (by omega) rfl (by omega)).1
 erw [this]
 simp only [yf3, yc, zda (fun x => [x]), ya3]
 simp
theorem zmk {n i : Nat} {l m : List FrD} {x : FrD} (hx : l[i]? = some x) (hi : i < 4000000000) (hm : m.length ≤ 4000000000) (h : x.2.2.1.length ≤ 4294967296 ∧ x.2.2.2.length ≤ 4294967296) :
  qaj_B0 n l (lenI l) (i : Int) m = some (Sum.inl ((l, (lenI l, ((i + 1 : Nat) : Int))), m ++ [x])) := by
 unfold qaj_B0
 obtain ⟨x1, x2, x3, x4⟩ := x
 have hlt := zaA hx
 rw [zg, decide_eq_true (by omega), yg, zA, hx]
 simp only [yc, cloneU h.1, cloneU h.2, clipU, zlC, zmb, zfL, mostLen, yi1, yh2, yb3]
 rw [zE (by omega), zT (by omega)]
 simp only [yg, yq2, zE (yx _), show Nat.beq 0 0 = true from rfl]
theorem zmV {n : Nat} {l : List FrD} (hl : l.length ≤ 3000) (hn : 4000 ≤ n) (h : ∀ x ∈ l, x.2.2.1.length ≤ 3000 ∧ x.2.2.2.length ≤ 3000) : qaj n l = some l := by
 unfold qaj qaj_W0
 have := (zgl (B := fun s => qaj_B0 n s.1.1 s.1.2.1 s.1.2.2 s.2) (xs := l) (mk := fun i a => ((l, (lenI l, (i : Int))), a)) (f := fun a x => a ++ [x]) (e := fun a => a) (I := fun i a => a.length = i)
  (fun i a x hx hI => ⟨by
   have hh := h x (yj hx)
   have hlt := zaA hx
   exact zmk hx (by omega) (show a.length ≤ 4000000000 by have : a.length = i := hI; omega) ⟨by omega, by omega⟩, by simp [hI]⟩)
  (fun a hI => by simp only [qaj_B0, zaD, yh]) l.length 0 n [] (by omega) rfl (by omega)).1
 erw [this]
 simp only [yf3, yc, zda (fun x => [x]), ya3]
 simp
theorem zlj {n : Nat} {s : StD} (h : SmallS s) (hn : 4000 ≤ n) : qbe n s.1 s.2.1 s.2.2.1 s.2.2.2.1 s.2.2.2.2.1 s.2.2.2.2.2.1 s.2.2.2.2.2.2 =
  some (((0, s.1.length), ((0, s.2.1.length), ((0, s.2.2.1.length), (s.2.2.2.1, (s.2.2.2.2.1, (s.2.2.2.2.2.1, s.2.2.2.2.2.2)))))), (s.1, (s.2.1, s.2.2.1))) := by
 have h1 := h.n
 simp only [qbe, zmV (by omega) hn h.f, qbv_eq (by omega) hn h.o, cloneH (a := s.2.2.1) (by omega), clipF, clipO, clipH, yc]
end Sx
end
section
namespace Sx
open Go Go.Ab
theorem fit1 {A : Type} (a : A) : Nat.ble [a].length 4294967296 = true := rfl
theorem fitS {A : Type} {m : List A} (a : A) (h : m.length ≤ 4000000000) : Nat.ble (m ++ [a]).length 4294967296 = true := zE (by simp; omega)
theorem zhY {A : Type} {l : List A} {x : A} (h : l[0]? = some x) : l.take (0 + 1) = [x] := by
 cases l with
 | nil => cases h
 | cons y l => simp at h; subst h; rfl
theorem zfV {A : Type} {l : List A} {x : A} {i : Nat} (h : l[i]? = some x) : l.take (i + 1) = l.take i ++ [x] := by rw [List.take_add_one, h]; rfl
def fr0 (s : StD) (z q : Int × Int × Int × Int) (hs : List (Int × Int × Bool)) (i : Nat) : (Int × StD × (Int × Int × Int × Int) × (Int × Int × Int × Int) × List (Int × Int × Bool)) ⊕ (Int × StD × (Int × Int × Int × Int) × (Int × Int × Int × Int) × List FrD × List (Int × Int × Bool)) :=
 if i = 0 then .inl (0, (s, (z, (q, hs)))) else .inr ((i : Int), (s, (z, (q, (s.1.take i, hs)))))
theorem copy0 {n : Nat} {s : StD} (h : SmallS s) (hn : 4000 ≤ n) (z q : Int × Int × Int × Int) (hs : List (Int × Int × Bool)) :
  qbr_W0 n (Sum.inl (0, (s, (z, (q, hs))))) = some (if s.1.length = 0 then Sum.inl (s, (z, (q, hs))) else Sum.inr (s, (z, (q, (s.1, hs))))) := by
 have h1 := h.n
 unfold qbr_W0
 refine zed (B := qbr_M0 n) (f := fr0 s z q hs) (k := s.1.length) (fun i hi => ?_) ?_ s.1.length 0 n (by omega) (by omega)
 ·have hx : s.1[i]? = some s.1[i] := yf hi
  have hh := h.f _ (yj hx)
  generalize s.1[i] = x at hx hh
  by_cases e : i = 0
  ·subst e
   simp only [fr0, if_pos, Nat.add_eq_zero_iff, if_neg (show ¬ (0 + 1 = 0) by omega)]
   show qbr_B0q0 n 0 s.1 s.2.1 s.2.2.1 s.2.2.2.1 s.2.2.2.2.1 s.2.2.2.2.2.1 s.2.2.2.2.2.2 z.1 z.2.1 z.2.2.1 z.2.2.2 q.1 q.2.1 q.2.2.1 q.2.2.2 hs = _
   unfold qbr_B0q0
   have hx0 : getI s.1 (0 : Int) = some x := by have := zA s.1 0; rw [hx] at this; exact this
   rw [zg, decide_eq_true (by omega), yg, hx0]
   simp only [yc, mostLen, zE (show x.2.2.1.length ≤ 4294967296 by omega), zE (show x.2.2.2.length ≤ 4294967296 by omega), fit1, yg]
   rw [zhY hx]
   rfl
  ·simp only [fr0, if_neg e, if_neg (show ¬ (i + 1 = 0) by omega)]
   show qbr_B0q1 n (i : Int) s.1 s.2.1 s.2.2.1 s.2.2.2.1 s.2.2.2.2.1 s.2.2.2.2.2.1 s.2.2.2.2.2.2 z.1 z.2.1 z.2.2.1 z.2.2.2 q.1 q.2.1 q.2.2.1 q.2.2.2 (s.1.take i) hs = _
   unfold qbr_B0q1
   have hlt : (s.1.take i).length ≤ 4000000000 := by rw [yn2]; omega
   rw [zg, decide_eq_true (by omega), yg, zA, hx]
   simp only [yc, mostLen, zE (show x.2.2.1.length ≤ 4294967296 by omega), zE (show x.2.2.2.length ≤ 4294967296 by omega), fitS _ hlt, yg]
   rw [zT (by omega), zfV hx]
 ·by_cases e : s.1.length = 0
  ·simp only [fr0, e, if_pos]
   show qbr_B0q0 n 0 s.1 s.2.1 s.2.2.1 s.2.2.2.1 s.2.2.2.2.1 s.2.2.2.2.2.1 s.2.2.2.2.2.2 z.1 z.2.1 z.2.2.1 z.2.2.2 q.1 q.2.1 q.2.2.1 q.2.2.2 hs = _
   unfold qbr_B0q0
   rw [zg, decide_eq_false (by omega), yh]
  ·simp only [fr0, if_neg e, yx2]
   show qbr_B0q1 n (s.1.length : Int) s.1 s.2.1 s.2.2.1 s.2.2.2.1 s.2.2.2.2.1 s.2.2.2.2.2.1 s.2.2.2.2.2.2 z.1 z.2.1 z.2.2.1 z.2.2.2 q.1 q.2.1 q.2.2.1 q.2.2.2 s.1 hs = _
   unfold qbr_B0q1
   rw [zg, decide_eq_false (by omega), yh]
def copy1S (s : StD) (z q : Int × Int × Int × Int) (hs : List (Int × Int × Bool)) (i : Nat) : (Int × StD × (Int × Int × Int × Int) × (Int × Int × Int × Int) × List (Int × Int × Bool)) ⊕ ((Int × StD × (Int × Int × Int × Int) × (Int × Int × Int × Int) × List FrD × List (Int × Int × Bool)) ⊕ ((Int × StD × (Int × Int × Int × Int) × (Int × Int × Int × Int) × List FrD × List (Int × Int × Bool)) ⊕ (Int × StD × (Int × Int × Int × Int) × (Int × Int × Int × Int) × List FrD × List FrD × List (Int × Int × Bool)))) :=
 if i = 0 then Sum.inl (0, (s, (z, (q, hs)))) else Sum.inr (Sum.inl ((i : Int), (s, (z, (q, (s.2.1.take i, hs))))))
theorem copy1 {n : Nat} {s : StD} (h : SmallS s) (hn : 4000 ≤ n) (z q : Int × Int × Int × Int) (hs : List (Int × Int × Bool)) :
  qbr_W2x1 n (Sum.inl (0, (s, (z, (q, hs))))) = some (if s.2.1.length = 0 then Sum.inl (s, (z, (q, hs))) else Sum.inr (Sum.inl (s, (z, (q, (s.2.1, hs)))))) := by
 have h1 := h.n
 unfold qbr_W2x1
 refine zed (B := qbr_M2x1 n) (f := copy1S s z q hs) (k := s.2.1.length) (fun i hi => ?_) ?_ s.2.1.length 0 n (by omega) (by omega)
 ·have hx : s.2.1[i]? = some s.2.1[i] := yf hi
  have hh := h.o _ (yj hx)
  generalize s.2.1[i] = x at hx hh
  by_cases e : i = 0
  ·subst e
   simp only [copy1S, if_pos, Nat.add_eq_zero_iff, if_neg (show ¬ (0 + 1 = 0) by omega)]
   show qbr_B2x1q0 n 0 s.1 s.2.1 s.2.2.1 s.2.2.2.1 s.2.2.2.2.1 s.2.2.2.2.2.1 s.2.2.2.2.2.2 z.1 z.2.1 z.2.2.1 z.2.2.2 q.1 q.2.1 q.2.2.1 q.2.2.2 hs = _
   unfold qbr_B2x1q0
   have hx0 : getI s.2.1 (0 : Int) = some x := by have := zA s.2.1 0; rw [hx] at this; exact this
   rw [zg, decide_eq_true (by omega), yg, hx0]
   simp only [yc, mostLen, zE (show x.2.2.1.length ≤ 4294967296 by omega), zE (show x.2.2.2.length ≤ 4294967296 by omega), fit1, yg]
   rw [zhY hx]
   rfl
  ·simp only [copy1S, if_neg e, if_neg (show ¬ (i + 1 = 0) by omega)]
   show qbr_B2x1q1 n (i : Int) s.1 s.2.1 s.2.2.1 s.2.2.2.1 s.2.2.2.2.1 s.2.2.2.2.2.1 s.2.2.2.2.2.2 z.1 z.2.1 z.2.2.1 z.2.2.2 q.1 q.2.1 q.2.2.1 q.2.2.2 (s.2.1.take i) hs = _
   unfold qbr_B2x1q1
   have hlt : (s.2.1.take i).length ≤ 4000000000 := by rw [yn2]; omega
   rw [zg, decide_eq_true (by omega), yg, zA, hx]
   simp only [yc, mostLen, zE (show x.2.2.1.length ≤ 4294967296 by omega), zE (show x.2.2.2.length ≤ 4294967296 by omega), fitS _ hlt, yg]
   rw [zT (by omega), zfV hx]
 ·by_cases e : s.2.1.length = 0
  ·simp only [copy1S, e, if_pos]
   show qbr_B2x1q0 n 0 s.1 s.2.1 s.2.2.1 s.2.2.2.1 s.2.2.2.2.1 s.2.2.2.2.2.1 s.2.2.2.2.2.2 z.1 z.2.1 z.2.2.1 z.2.2.2 q.1 q.2.1 q.2.2.1 q.2.2.2 hs = _
   unfold qbr_B2x1q0
   rw [zg, decide_eq_false (by omega), yh]
  ·simp only [copy1S, if_neg e, yx2]
   show qbr_B2x1q1 n (s.2.1.length : Int) s.1 s.2.1 s.2.2.1 s.2.2.2.1 s.2.2.2.2.1 s.2.2.2.2.2.1 s.2.2.2.2.2.2 z.1 z.2.1 z.2.2.1 z.2.2.2 q.1 q.2.1 q.2.2.1 q.2.2.2 s.2.1 hs = _
   unfold qbr_B2x1q1
   rw [zg, decide_eq_false (by omega), yh]
def copy2S (s : StD) (z q : Int × Int × Int × Int) (fs : List FrD) (hs : List (Int × Int × Bool)) (i : Nat) : (Int × StD × (Int × Int × Int × Int) × (Int × Int × Int × Int) × List (Int × Int × Bool)) ⊕ ((Int × StD × (Int × Int × Int × Int) × (Int × Int × Int × Int) × List FrD × List (Int × Int × Bool)) ⊕ ((Int × StD × (Int × Int × Int × Int) × (Int × Int × Int × Int) × List FrD × List (Int × Int × Bool)) ⊕ (Int × StD × (Int × Int × Int × Int) × (Int × Int × Int × Int) × List FrD × List FrD × List (Int × Int × Bool)))) :=
 if i = 0 then Sum.inr (Sum.inr (Sum.inl (0, (s, (z, (q, (fs, hs))))))) else Sum.inr (Sum.inr (Sum.inr ((i : Int), (s, (z, (q, (fs, (s.2.1.take i, hs))))))))
theorem copy2 {n : Nat} {s : StD} (h : SmallS s) (hn : 4000 ≤ n) (z q : Int × Int × Int × Int) (fs : List FrD) (hs : List (Int × Int × Bool)) :
  qbr_W2x1 n (Sum.inr (Sum.inr (Sum.inl (0, (s, (z, (q, (fs, hs)))))))) = some (if s.2.1.length = 0 then Sum.inr (Sum.inr (Sum.inl (s, (z, (q, (fs, hs)))))) else Sum.inr (Sum.inr (Sum.inr (s, (z, (q, (fs, (s.2.1, hs)))))))) := by
 have h1 := h.n
 unfold qbr_W2x1
 refine zed (B := qbr_M2x1 n) (f := copy2S s z q fs hs) (k := s.2.1.length) (fun i hi => ?_) ?_ s.2.1.length 0 n (by omega) (by omega)
 ·have hx : s.2.1[i]? = some s.2.1[i] := yf hi
  have hh := h.o _ (yj hx)
  generalize s.2.1[i] = x at hx hh
  by_cases e : i = 0
  ·subst e
   simp only [copy2S, if_pos, Nat.add_eq_zero_iff, if_neg (show ¬ (0 + 1 = 0) by omega)]
   show qbr_B2x1q2 n 0 s.1 s.2.1 s.2.2.1 s.2.2.2.1 s.2.2.2.2.1 s.2.2.2.2.2.1 s.2.2.2.2.2.2 z.1 z.2.1 z.2.2.1 z.2.2.2 q.1 q.2.1 q.2.2.1 q.2.2.2 fs hs = _
   unfold qbr_B2x1q2
   have hx0 : getI s.2.1 (0 : Int) = some x := by have := zA s.2.1 0; rw [hx] at this; exact this
   rw [zg, decide_eq_true (by omega), yg, hx0]
   simp only [yc, mostLen, zE (show x.2.2.1.length ≤ 4294967296 by omega), zE (show x.2.2.2.length ≤ 4294967296 by omega), fit1, yg]
   rw [zhY hx]
   rfl
  ·simp only [copy2S, if_neg e, if_neg (show ¬ (i + 1 = 0) by omega)]
   show qbr_B2x1q3 n (i : Int) s.1 s.2.1 s.2.2.1 s.2.2.2.1 s.2.2.2.2.1 s.2.2.2.2.2.1 s.2.2.2.2.2.2 z.1 z.2.1 z.2.2.1 z.2.2.2 q.1 q.2.1 q.2.2.1 q.2.2.2 fs (s.2.1.take i) hs = _
   unfold qbr_B2x1q3
   have hlt : (s.2.1.take i).length ≤ 4000000000 := by rw [yn2]; omega
   rw [zg, decide_eq_true (by omega), yg, zA, hx]
   simp only [yc, mostLen, zE (show x.2.2.1.length ≤ 4294967296 by omega), zE (show x.2.2.2.length ≤ 4294967296 by omega), fitS _ hlt, yg]
   rw [zT (by omega), zfV hx]
 ·by_cases e : s.2.1.length = 0
  ·simp only [copy2S, e, if_pos]
   show qbr_B2x1q2 n 0 s.1 s.2.1 s.2.2.1 s.2.2.2.1 s.2.2.2.2.1 s.2.2.2.2.2.1 s.2.2.2.2.2.2 z.1 z.2.1 z.2.2.1 z.2.2.2 q.1 q.2.1 q.2.2.1 q.2.2.2 fs hs = _
   unfold qbr_B2x1q2
   rw [zg, decide_eq_false (by omega), yh]
  ·simp only [copy2S, if_neg e, yx2]
   show qbr_B2x1q3 n (s.2.1.length : Int) s.1 s.2.1 s.2.2.1 s.2.2.2.1 s.2.2.2.2.1 s.2.2.2.2.2.1 s.2.2.2.2.2.2 z.1 z.2.1 z.2.2.1 z.2.2.2 q.1 q.2.1 q.2.2.1 q.2.2.2 fs s.2.1 hs = _
   unfold qbr_B2x1q3
   rw [zg, decide_eq_false (by omega), yh]
theorem zki {A : Type} {l : List A} (h : l.length = 0) : [] = l := (yo h).symm
theorem zqp {n : Nat} {s : StD} (h : SmallS s) (hn : 4000 ≤ n) : qbr n s.1 s.2.1 s.2.2.1 s.2.2.2.1 s.2.2.2.2.1 s.2.2.2.2.2.1 s.2.2.2.2.2.2 = some s := by
 have h1 := h.n
 unfold qbr
 simp only [mostLen, zE (show s.2.2.1.length ≤ 4294967296 by omega), yg]
 have e0 := copy0 h hn (0, (0, (0, 0))) (s.2.2.2.1, (s.2.2.2.2.1, (s.2.2.2.2.2.1, s.2.2.2.2.2.2))) s.2.2.1
 have e1 := copy1 h hn (0, (0, (0, 0))) (s.2.2.2.1, (s.2.2.2.2.1, (s.2.2.2.2.2.1, s.2.2.2.2.2.2))) s.2.2.1
 have e2 := copy2 h hn (0, (0, (0, 0))) (s.2.2.2.1, (s.2.2.2.2.1, (s.2.2.2.2.2.1, s.2.2.2.2.2.2))) s.1 s.2.2.1
 obtain ⟨s1, s2, s3, s4, s5, s6, s7⟩ := s
 simp only at e0 e1 e2 ⊢
 rw [e0, yc]
 by_cases c0 : s1.length = 0
 ·rw [if_pos c0]
  simp only
  rw [e1, yc]
  by_cases c1 : s2.length = 0
  ·rw [if_pos c1, ← zki c0, ← zki c1]
  ·rw [if_neg c1, ← zki c0]
 ·rw [if_neg c0]
  simp only
  rw [e2, yc]
  by_cases c1 : s2.length = 0
  ·rw [if_pos c1, ← zki c1]
  ·rw [if_neg c1]
end Sx
end
section
namespace Sx
open Go Go.Ab
abbrev TyM := (Nat × Nat) × (Nat × Nat) × (Nat × Nat) × Int × Int × Int × Int
def OkL (N : Nat) (l : List FrD) : Prop := l.length = N ∧ ∀ x ∈ l, x.2.2.1.length ≤ 3000 ∧ x.2.2.2.length ≤ 3000
theorem OkL.set {N : Nat} {l : List FrD} (h : OkL N l) {x : FrD} (hx : x.2.2.1.length ≤ 3000 ∧ x.2.2.2.length ≤ 3000) (i : Nat) : OkL N (l.set i x) := by
 refine ⟨by rw [ym2]; exact h.1, fun y hy => ?_⟩
 rcases ye2 hy with hy | rfl
 ·exact h.2 y hy
 ·exact hx
theorem step2 {n N i k : Nat} {A B : StD} {M : TyM} {g : List FrD} (o : List FrD) (h : List (Int × Int × Bool)) (hM : M.1 = (0, N)) (hN : N ≤ 3000) (hg : OkL N g) (hi : i < N) {x : FrD} (hx : g[i]? = some x) :
  (k < x.2.2.1.length ∧ ∃ y, law14StateCopies_B2 n (i : Int) (k : Int) A.1 A.2.1 A.2.2.1 A.2.2.2.1 A.2.2.2.2.1 A.2.2.2.2.2.1 A.2.2.2.2.2.2 B.1 B.2.1 B.2.2.1 B.2.2.2.1 B.2.2.2.2.1 B.2.2.2.2.2.1 B.2.2.2.2.2.2 M.1 M.2.1 M.2.2.1 M.2.2.2.1 M.2.2.2.2.1 M.2.2.2.2.2.1 M.2.2.2.2.2.2 g o h = some (Sum.inl (((i : Int), ((k + 1 : Nat) : Int)), (A, (B, (M, (g.set i (x.1, (x.2.1, ((x.2.2.1.set k (addI .u64 y 1)), x.2.2.2))), (o, h)))))))) ∨
  (x.2.2.1.length ≤ k ∧ ∃ xs, xs.length ≤ 3000 ∧ law14StateCopies_B2 n (i : Int) (k : Int) A.1 A.2.1 A.2.2.1 A.2.2.2.1 A.2.2.2.2.1 A.2.2.2.2.2.1 A.2.2.2.2.2.2 B.1 B.2.1 B.2.2.1 B.2.2.2.1 B.2.2.2.2.1 B.2.2.2.2.2.1 B.2.2.2.2.2.2 M.1 M.2.1 M.2.2.1 M.2.2.2.1 M.2.2.2.2.1 M.2.2.2.2.2.1 M.2.2.2.2.2.2 g o h = some (Sum.inr ((i : Int), (A, (B, (M, ((g, i), (o, (h, xs))))))))) := by
 have hxl := hg.2 x (yj hx)
 obtain ⟨Ma, Mb⟩ := M
 simp only at hM
 subst hM
 have c1 : (decide (0 ≤ (i : Int)) && decide ((i : Int) < ((N : Nat) : Int))) = true := by simp; omega
 by_cases hk : k < x.2.2.1.length
 ·left
  refine ⟨hk, x.2.2.1[k], ?_⟩
  have hy : x.2.2.1[k]? = some x.2.2.1[k] := yf hk
  generalize x.2.2.1[k] = y at hy
  have c2 : (decide (0 ≤ (k : Int)) && decide ((k : Int) < ((x.2.2.1.length : Nat) : Int))) = true := by simp; omega
  have c3 : decide ((k : Int) < lenI x.2.2.1) = true := by rw [zg]; simp; omega
  unfold law14StateCopies_B2
  simp only [c1, yy, yd1, hx, yc, c2, c3, yg, hy, yq2, zE (show k + 1 ≤ x.2.2.1.length by omega)]
  rw [zT (by omega)]
 ·right
  refine ⟨by omega, x.2.2.1, by omega, ?_⟩
  have c3 : decide ((k : Int) < lenI x.2.2.1) = false := by rw [zg]; simp; omega
  unfold law14StateCopies_B2
  simp only [c1, yy, yd1, hx, yc, c3, yg, yh]
theorem step4 {n N i k : Nat} {A B : StD} {M : TyM} {g : List FrD} (o : List FrD) (h : List (Int × Int × Bool)) (hM : M.1 = (0, N)) (hN : N ≤ 3000) (hg : OkL N g) (hi : i < N) {x : FrD} (hx : g[i]? = some x) :
  (k < x.2.2.2.length ∧ ∃ y, law14StateCopies_B4 n (i : Int) (k : Int) A.1 A.2.1 A.2.2.1 A.2.2.2.1 A.2.2.2.2.1 A.2.2.2.2.2.1 A.2.2.2.2.2.2 B.1 B.2.1 B.2.2.1 B.2.2.2.1 B.2.2.2.2.1 B.2.2.2.2.2.1 B.2.2.2.2.2.2 M.1 M.2.1 M.2.2.1 M.2.2.2.1 M.2.2.2.2.1 M.2.2.2.2.2.1 M.2.2.2.2.2.2 g o h = some (Sum.inl (((i : Int), ((k + 1 : Nat) : Int)), (A, (B, (M, (g.set i (x.1, (x.2.1, (x.2.2.1, (x.2.2.2.set k (addI .u64 y 1))))), (o, h)))))))) ∨
  (x.2.2.2.length ≤ k ∧ ∃ xs, xs.length ≤ 3000 ∧ law14StateCopies_B4 n (i : Int) (k : Int) A.1 A.2.1 A.2.2.1 A.2.2.2.1 A.2.2.2.2.1 A.2.2.2.2.2.1 A.2.2.2.2.2.2 B.1 B.2.1 B.2.2.1 B.2.2.2.1 B.2.2.2.2.1 B.2.2.2.2.2.1 B.2.2.2.2.2.2 M.1 M.2.1 M.2.2.1 M.2.2.2.1 M.2.2.2.2.1 M.2.2.2.2.2.1 M.2.2.2.2.2.2 g o h = some (Sum.inr ((i : Int), (A, (B, (M, ((g, i), (o, (h, xs))))))))) := by
 have hxl := hg.2 x (yj hx)
 obtain ⟨Ma, Mb⟩ := M
 simp only at hM
 subst hM
 have c1 : (decide (0 ≤ (i : Int)) && decide ((i : Int) < ((N : Nat) : Int))) = true := by simp; omega
 by_cases hk : k < x.2.2.2.length
 ·left
  refine ⟨hk, x.2.2.2[k], ?_⟩
  have hy : x.2.2.2[k]? = some x.2.2.2[k] := yf hk
  generalize x.2.2.2[k] = y at hy
  have c2 : (decide (0 ≤ (k : Int)) && decide ((k : Int) < ((x.2.2.2.length : Nat) : Int))) = true := by simp; omega
  have c3 : decide ((k : Int) < lenI x.2.2.2) = true := by rw [zg]; simp; omega
  unfold law14StateCopies_B4
  simp only [c1, yy, yd1, hx, yc, c2, c3, yg, hy, yq2, zE (show k + 1 ≤ x.2.2.2.length by omega)]
  rw [zT (by omega)]
 ·right
  refine ⟨by omega, x.2.2.2, by omega, ?_⟩
  have c3 : decide ((k : Int) < lenI x.2.2.2) = false := by rw [zg]; simp; omega
  unfold law14StateCopies_B4
  simp only [c1, yy, yd1, hx, yc, c3, yg, yh]
theorem step8 {n N i k : Nat} {A B : StD} {M : TyM} {g : List FrD} (f : List FrD) (h : List (Int × Int × Bool)) (hM : M.2.1 = (0, N)) (hN : N ≤ 3000) (hg : OkL N g) (hi : i < N) {x : FrD} (hx : g[i]? = some x) :
  (k < x.2.2.1.length ∧ ∃ y, law14StateCopies_B8 n (i : Int) (k : Int) A.1 A.2.1 A.2.2.1 A.2.2.2.1 A.2.2.2.2.1 A.2.2.2.2.2.1 A.2.2.2.2.2.2 B.1 B.2.1 B.2.2.1 B.2.2.2.1 B.2.2.2.2.1 B.2.2.2.2.2.1 B.2.2.2.2.2.2 M.1 M.2.1 M.2.2.1 M.2.2.2.1 M.2.2.2.2.1 M.2.2.2.2.2.1 M.2.2.2.2.2.2 f g h = some (Sum.inl (((i : Int), ((k + 1 : Nat) : Int)), (A, (B, (M, (f, (g.set i (x.1, (x.2.1, ((x.2.2.1.set k (addI .u64 y 1)), x.2.2.2))), h)))))))) ∨
  (x.2.2.1.length ≤ k ∧ ∃ xs, xs.length ≤ 3000 ∧ law14StateCopies_B8 n (i : Int) (k : Int) A.1 A.2.1 A.2.2.1 A.2.2.2.1 A.2.2.2.2.1 A.2.2.2.2.2.1 A.2.2.2.2.2.2 B.1 B.2.1 B.2.2.1 B.2.2.2.1 B.2.2.2.2.1 B.2.2.2.2.2.1 B.2.2.2.2.2.2 M.1 M.2.1 M.2.2.1 M.2.2.2.1 M.2.2.2.2.1 M.2.2.2.2.2.1 M.2.2.2.2.2.2 f g h = some (Sum.inr ((i : Int), (A, (B, (M, (f, ((g, i), (h, xs))))))))) := by
 have hxl := hg.2 x (yj hx)
 obtain ⟨Ma, Mb, Mc⟩ := M
 simp only at hM
 subst hM
 have c1 : (decide (0 ≤ (i : Int)) && decide ((i : Int) < ((N : Nat) : Int))) = true := by simp; omega
 by_cases hk : k < x.2.2.1.length
 ·left
  refine ⟨hk, x.2.2.1[k], ?_⟩
  have hy : x.2.2.1[k]? = some x.2.2.1[k] := yf hk
  generalize x.2.2.1[k] = y at hy
  have c2 : (decide (0 ≤ (k : Int)) && decide ((k : Int) < ((x.2.2.1.length : Nat) : Int))) = true := by simp; omega
  have c3 : decide ((k : Int) < lenI x.2.2.1) = true := by rw [zg]; simp; omega
  unfold law14StateCopies_B8
  simp only [c1, yy, yd1, hx, yc, c2, c3, yg, hy, yq2, zE (show k + 1 ≤ x.2.2.1.length by omega)]
  rw [zT (by omega)]
 ·right
  refine ⟨by omega, x.2.2.1, by omega, ?_⟩
  have c3 : decide ((k : Int) < lenI x.2.2.1) = false := by rw [zg]; simp; omega
  unfold law14StateCopies_B8
  simp only [c1, yy, yd1, hx, yc, c3, yg, yh]
theorem step10 {n N i k : Nat} {A B : StD} {M : TyM} {g : List FrD} (f : List FrD) (h : List (Int × Int × Bool)) (hM : M.2.1 = (0, N)) (hN : N ≤ 3000) (hg : OkL N g) (hi : i < N) {x : FrD} (hx : g[i]? = some x) :
  (k < x.2.2.2.length ∧ ∃ y, law14StateCopies_B10 n (i : Int) (k : Int) A.1 A.2.1 A.2.2.1 A.2.2.2.1 A.2.2.2.2.1 A.2.2.2.2.2.1 A.2.2.2.2.2.2 B.1 B.2.1 B.2.2.1 B.2.2.2.1 B.2.2.2.2.1 B.2.2.2.2.2.1 B.2.2.2.2.2.2 M.1 M.2.1 M.2.2.1 M.2.2.2.1 M.2.2.2.2.1 M.2.2.2.2.2.1 M.2.2.2.2.2.2 f g h = some (Sum.inl (((i : Int), ((k + 1 : Nat) : Int)), (A, (B, (M, (f, (g.set i (x.1, (x.2.1, (x.2.2.1, (x.2.2.2.set k (addI .u8 y 1))))), h)))))))) ∨
  (x.2.2.2.length ≤ k ∧ ∃ xs, xs.length ≤ 3000 ∧ law14StateCopies_B10 n (i : Int) (k : Int) A.1 A.2.1 A.2.2.1 A.2.2.2.1 A.2.2.2.2.1 A.2.2.2.2.2.1 A.2.2.2.2.2.2 B.1 B.2.1 B.2.2.1 B.2.2.2.1 B.2.2.2.2.1 B.2.2.2.2.2.1 B.2.2.2.2.2.2 M.1 M.2.1 M.2.2.1 M.2.2.2.1 M.2.2.2.2.1 M.2.2.2.2.2.1 M.2.2.2.2.2.2 f g h = some (Sum.inr ((i : Int), (A, (B, (M, (f, ((g, i), (h, xs))))))))) := by
 have hxl := hg.2 x (yj hx)
 obtain ⟨Ma, Mb, Mc⟩ := M
 simp only at hM
 subst hM
 have c1 : (decide (0 ≤ (i : Int)) && decide ((i : Int) < ((N : Nat) : Int))) = true := by simp; omega
 by_cases hk : k < x.2.2.2.length
 ·left
  refine ⟨hk, x.2.2.2[k], ?_⟩
  have hy : x.2.2.2[k]? = some x.2.2.2[k] := yf hk
  generalize x.2.2.2[k] = y at hy
  have c2 : (decide (0 ≤ (k : Int)) && decide ((k : Int) < ((x.2.2.2.length : Nat) : Int))) = true := by simp; omega
  have c3 : decide ((k : Int) < lenI x.2.2.2) = true := by rw [zg]; simp; omega
  unfold law14StateCopies_B10
  simp only [c1, yy, yd1, hx, yc, c2, c3, yg, hy, yq2, zE (show k + 1 ≤ x.2.2.2.length by omega)]
  rw [zT (by omega)]
 ·right
  refine ⟨by omega, x.2.2.2, by omega, ?_⟩
  have c3 : decide ((k : Int) < lenI x.2.2.2) = false := by rw [zg]; simp; omega
  unfold law14StateCopies_B10
  simp only [c1, yy, yd1, hx, yc, c3, yg, yh]
theorem loop2 {n N i : Nat} {A B : StD} {M : TyM} {g : List FrD} (o : List FrD) (h : List (Int × Int × Bool)) (hM : M.1 = (0, N)) (hN : N ≤ 3000) (hg : OkL N g) (hi : i < N) (hn : 4000 ≤ n) :
  ∃ g' xs, OkL N g' ∧ xs.length ≤ 3000 ∧ law14StateCopies_W2 n (((i : Int), 0), (A, (B, (M, (g, (o, h)))))) = some ((i : Int), (A, (B, (M, ((g', i), (o, (h, xs))))))) := by
 unfold law14StateCopies_W2
 have := zap (B := fun s => law14StateCopies_B2 n s.1.1 s.1.2 s.2.1.1 s.2.1.2.1 s.2.1.2.2.1 s.2.1.2.2.2.1 s.2.1.2.2.2.2.1 s.2.1.2.2.2.2.2.1 s.2.1.2.2.2.2.2.2 s.2.2.1.1 s.2.2.1.2.1 s.2.2.1.2.2.1 s.2.2.1.2.2.2.1 s.2.2.1.2.2.2.2.1 s.2.2.1.2.2.2.2.2.1 s.2.2.1.2.2.2.2.2.2 s.2.2.2.1.1 s.2.2.2.1.2.1 s.2.2.2.1.2.2.1 s.2.2.2.1.2.2.2.1 s.2.2.2.1.2.2.2.2.1 s.2.2.2.1.2.2.2.2.2.1 s.2.2.2.1.2.2.2.2.2.2 s.2.2.2.2.1 s.2.2.2.2.2.1 s.2.2.2.2.2.2)
  (I := fun s => ∃ (k : Nat) (g : List FrD), k ≤ 3000 ∧ OkL N g ∧ s = (((i : Int), (k : Int)), (A, (B, (M, (g, (o, h))))))) (m := fun s => 3001 - s.1.2.toNat) (Q := fun x => ∃ g' xs, OkL N g' ∧ xs.length ≤ 3000 ∧ x = ((i : Int), (A, (B, (M, ((g', i), (o, (h, xs))))))))
  (fun s hI => by
   obtain ⟨k, g, hk, hg, rfl⟩ := hI
   have hlt : i < g.length := by rw [hg.1]; exact hi
   have hx : g[i]? = some g[i] := yf hlt
   have hxl := hg.2 _ (yj hx)
   rcases step2 o h hM hN hg hi (n := n) (k := k) (A := A) (B := B) hx with ⟨h1, y, h2⟩ | ⟨h1, xs, h2, h3⟩
   ·exact .inl ⟨_, h2, ⟨k + 1, _, by omega, hg.set (by simp only [ym2]; exact hxl) i, rfl⟩, by simp only [yd1]; omega⟩
   ·exact .inr ⟨_, h3, g, xs, hg, h2, rfl⟩) n _ ⟨0, g, by omega, hg, rfl⟩ (by simp only; omega)
 obtain ⟨x, h1, g', xs, h2, h3, rfl⟩ := this
 exact ⟨g', xs, h2, h3, h1⟩
theorem loop4 {n N i : Nat} {A B : StD} {M : TyM} {g : List FrD} (o : List FrD) (h : List (Int × Int × Bool)) (hM : M.1 = (0, N)) (hN : N ≤ 3000) (hg : OkL N g) (hi : i < N) (hn : 4000 ≤ n) :
  ∃ g' xs, OkL N g' ∧ xs.length ≤ 3000 ∧ law14StateCopies_W4 n (((i : Int), 0), (A, (B, (M, (g, (o, h)))))) = some ((i : Int), (A, (B, (M, ((g', i), (o, (h, xs))))))) := by
 unfold law14StateCopies_W4
 have := zap (B := fun s => law14StateCopies_B4 n s.1.1 s.1.2 s.2.1.1 s.2.1.2.1 s.2.1.2.2.1 s.2.1.2.2.2.1 s.2.1.2.2.2.2.1 s.2.1.2.2.2.2.2.1 s.2.1.2.2.2.2.2.2 s.2.2.1.1 s.2.2.1.2.1 s.2.2.1.2.2.1 s.2.2.1.2.2.2.1 s.2.2.1.2.2.2.2.1 s.2.2.1.2.2.2.2.2.1 s.2.2.1.2.2.2.2.2.2 s.2.2.2.1.1 s.2.2.2.1.2.1 s.2.2.2.1.2.2.1 s.2.2.2.1.2.2.2.1 s.2.2.2.1.2.2.2.2.1 s.2.2.2.1.2.2.2.2.2.1 s.2.2.2.1.2.2.2.2.2.2 s.2.2.2.2.1 s.2.2.2.2.2.1 s.2.2.2.2.2.2)
  (I := fun s => ∃ (k : Nat) (g : List FrD), k ≤ 3000 ∧ OkL N g ∧ s = (((i : Int), (k : Int)), (A, (B, (M, (g, (o, h))))))) (m := fun s => 3001 - s.1.2.toNat) (Q := fun x => ∃ g' xs, OkL N g' ∧ xs.length ≤ 3000 ∧ x = ((i : Int), (A, (B, (M, ((g', i), (o, (h, xs))))))))
  (fun s hI => by
   obtain ⟨k, g, hk, hg, rfl⟩ := hI
   have hlt : i < g.length := by rw [hg.1]; exact hi
   have hx : g[i]? = some g[i] := yf hlt
   have hxl := hg.2 _ (yj hx)
   rcases step4 o h hM hN hg hi (n := n) (k := k) (A := A) (B := B) hx with ⟨h1, y, h2⟩ | ⟨h1, xs, h2, h3⟩
   ·exact .inl ⟨_, h2, ⟨k + 1, _, by omega, hg.set (by simp only [ym2]; exact hxl) i, rfl⟩, by simp only [yd1]; omega⟩
   ·exact .inr ⟨_, h3, g, xs, hg, h2, rfl⟩) n _ ⟨0, g, by omega, hg, rfl⟩ (by simp only; omega)
 obtain ⟨x, h1, g', xs, h2, h3, rfl⟩ := this
 exact ⟨g', xs, h2, h3, h1⟩
theorem loop8 {n N i : Nat} {A B : StD} {M : TyM} {g : List FrD} (f : List FrD) (h : List (Int × Int × Bool)) (hM : M.2.1 = (0, N)) (hN : N ≤ 3000) (hg : OkL N g) (hi : i < N) (hn : 4000 ≤ n) :
  ∃ g' xs, OkL N g' ∧ xs.length ≤ 3000 ∧ law14StateCopies_W8 n (((i : Int), 0), (A, (B, (M, (f, (g, h)))))) = some ((i : Int), (A, (B, (M, (f, ((g', i), (h, xs))))))) := by
 unfold law14StateCopies_W8
 have := zap (B := fun s => law14StateCopies_B8 n s.1.1 s.1.2 s.2.1.1 s.2.1.2.1 s.2.1.2.2.1 s.2.1.2.2.2.1 s.2.1.2.2.2.2.1 s.2.1.2.2.2.2.2.1 s.2.1.2.2.2.2.2.2 s.2.2.1.1 s.2.2.1.2.1 s.2.2.1.2.2.1 s.2.2.1.2.2.2.1 s.2.2.1.2.2.2.2.1 s.2.2.1.2.2.2.2.2.1 s.2.2.1.2.2.2.2.2.2 s.2.2.2.1.1 s.2.2.2.1.2.1 s.2.2.2.1.2.2.1 s.2.2.2.1.2.2.2.1 s.2.2.2.1.2.2.2.2.1 s.2.2.2.1.2.2.2.2.2.1 s.2.2.2.1.2.2.2.2.2.2 s.2.2.2.2.1 s.2.2.2.2.2.1 s.2.2.2.2.2.2)
  (I := fun s => ∃ (k : Nat) (g : List FrD), k ≤ 3000 ∧ OkL N g ∧ s = (((i : Int), (k : Int)), (A, (B, (M, (f, (g, h))))))) (m := fun s => 3001 - s.1.2.toNat) (Q := fun x => ∃ g' xs, OkL N g' ∧ xs.length ≤ 3000 ∧ x = ((i : Int), (A, (B, (M, (f, ((g', i), (h, xs))))))))
  (fun s hI => by
   obtain ⟨k, g, hk, hg, rfl⟩ := hI
   have hlt : i < g.length := by rw [hg.1]; exact hi
   have hx : g[i]? = some g[i] := yf hlt
   have hxl := hg.2 _ (yj hx)
   rcases step8 f h hM hN hg hi (n := n) (k := k) (A := A) (B := B) hx with ⟨h1, y, h2⟩ | ⟨h1, xs, h2, h3⟩
   ·exact .inl ⟨_, h2, ⟨k + 1, _, by omega, hg.set (by simp only [ym2]; exact hxl) i, rfl⟩, by simp only [yd1]; omega⟩
   ·exact .inr ⟨_, h3, g, xs, hg, h2, rfl⟩) n _ ⟨0, g, by omega, hg, rfl⟩ (by simp only; omega)
 obtain ⟨x, h1, g', xs, h2, h3, rfl⟩ := this
 exact ⟨g', xs, h2, h3, h1⟩
theorem loop10 {n N i : Nat} {A B : StD} {M : TyM} {g : List FrD} (f : List FrD) (h : List (Int × Int × Bool)) (hM : M.2.1 = (0, N)) (hN : N ≤ 3000) (hg : OkL N g) (hi : i < N) (hn : 4000 ≤ n) :
  ∃ g' xs, OkL N g' ∧ xs.length ≤ 3000 ∧ law14StateCopies_W10 n (((i : Int), 0), (A, (B, (M, (f, (g, h)))))) = some ((i : Int), (A, (B, (M, (f, ((g', i), (h, xs))))))) := by
 unfold law14StateCopies_W10
 have := zap (B := fun s => law14StateCopies_B10 n s.1.1 s.1.2 s.2.1.1 s.2.1.2.1 s.2.1.2.2.1 s.2.1.2.2.2.1 s.2.1.2.2.2.2.1 s.2.1.2.2.2.2.2.1 s.2.1.2.2.2.2.2.2 s.2.2.1.1 s.2.2.1.2.1 s.2.2.1.2.2.1 s.2.2.1.2.2.2.1 s.2.2.1.2.2.2.2.1 s.2.2.1.2.2.2.2.2.1 s.2.2.1.2.2.2.2.2.2 s.2.2.2.1.1 s.2.2.2.1.2.1 s.2.2.2.1.2.2.1 s.2.2.2.1.2.2.2.1 s.2.2.2.1.2.2.2.2.1 s.2.2.2.1.2.2.2.2.2.1 s.2.2.2.1.2.2.2.2.2.2 s.2.2.2.2.1 s.2.2.2.2.2.1 s.2.2.2.2.2.2)
  (I := fun s => ∃ (k : Nat) (g : List FrD), k ≤ 3000 ∧ OkL N g ∧ s = (((i : Int), (k : Int)), (A, (B, (M, (f, (g, h))))))) (m := fun s => 3001 - s.1.2.toNat) (Q := fun x => ∃ g' xs, OkL N g' ∧ xs.length ≤ 3000 ∧ x = ((i : Int), (A, (B, (M, (f, ((g', i), (h, xs))))))))
  (fun s hI => by
   obtain ⟨k, g, hk, hg, rfl⟩ := hI
   have hlt : i < g.length := by rw [hg.1]; exact hi
   have hx : g[i]? = some g[i] := yf hlt
   have hxl := hg.2 _ (yj hx)
   rcases step10 f h hM hN hg hi (n := n) (k := k) (A := A) (B := B) hx with ⟨h1, y, h2⟩ | ⟨h1, xs, h2, h3⟩
   ·exact .inl ⟨_, h2, ⟨k + 1, _, by omega, hg.set (by simp only [ym2]; exact hxl) i, rfl⟩, by simp only [yd1]; omega⟩
   ·exact .inr ⟨_, h3, g, xs, hg, h2, rfl⟩) n _ ⟨0, g, by omega, hg, rfl⟩ (by simp only; omega)
 obtain ⟨x, h1, g', xs, h2, h3, rfl⟩ := this
 exact ⟨g', xs, h2, h3, h1⟩
end Sx
end
section
namespace Sx
open Go Go.Ab
theorem step0 {n N i : Nat} {A B : StD} {M : TyM} {g : List FrD} (o : List FrD) (h : List (Int × Int × Bool)) (hM : M.1 = (0, N)) (hN : N ≤ 3000) (hg : OkL N g) (hi : i < N) (hn : 4000 ≤ n) :
  ∃ g', OkL N g' ∧ law14StateCopies_B0 n (i : Int) A.1 A.2.1 A.2.2.1 A.2.2.2.1 A.2.2.2.2.1 A.2.2.2.2.2.1 A.2.2.2.2.2.2 B.1 B.2.1 B.2.2.1 B.2.2.2.1 B.2.2.2.2.1 B.2.2.2.2.2.1 B.2.2.2.2.2.2 M.1 M.2.1 M.2.2.1 M.2.2.2.1 M.2.2.2.2.1 M.2.2.2.2.2.1 M.2.2.2.2.2.2 g o h = some (Sum.inl (((i + 1 : Nat) : Int), (A, (B, (M, (g', (o, h))))))) := by
 obtain ⟨g1, xs, hg1, hxs, e1⟩ := loop2 (n := n) (A := A) (B := B) o h hM hN hg hi hn
 have l1 : i < g1.length := by rw [hg1.1]; exact hi
 have y1 : g1[i]? = some g1[i] := yf l1
 have z1 := hg1.2 _ (yj y1)
 generalize g1[i] = u at y1 z1
 have hg2 : OkL N (g1.set i (u.1, (u.2.1, (xs, u.2.2.2)))) := hg1.set (x := (u.1, (u.2.1, (xs, u.2.2.2)))) ⟨hxs, z1.2⟩ i
 obtain ⟨g3, ys, hg3, hys, e2⟩ := loop4 (n := n) (A := A) (B := B) o h hM hN hg2 hi hn
 have l3 : i < g3.length := by rw [hg3.1]; exact hi
 have y3 : g3[i]? = some g3[i] := yf l3
 have z3 := hg3.2 _ (yj y3)
 generalize g3[i] = w at y3 z3
 obtain ⟨Ma, Mb⟩ := M
 simp only at hM
 subst hM
 have c1 : (decide (0 ≤ (i : Int)) && decide ((i : Int) < ((N : Nat) : Int))) = true := by simp; omega
 have c0 : decide ((i : Int) < ((N : Nat) : Int)) = true := by simp; omega
 refine ⟨(g3.set i (w.1, (addI .i64 w.2.1 1, (w.2.2.1, w.2.2.2)))).set i (w.1, (addI .i64 w.2.1 1, (w.2.2.1, ys))), ?_, ?_⟩
 rotate_left
 ·unfold law14StateCopies_B0
  simp only [c0, yg]
  rw [e1]
  simp only [yc, y1]
  rw [e2]
  simp only [yc, c1, yg, yy, yd1, y3, yw l3]
  rw [zT (by omega)]
 ·exact (hg3.set (x := (w.1, (addI .i64 w.2.1 1, (w.2.2.1, w.2.2.2)))) z3 i).set (x := (w.1, (addI .i64 w.2.1 1, (w.2.2.1, ys)))) ⟨z3.1, hys⟩ i
theorem loop0 {n N : Nat} {A B : StD} {M : TyM} {g : List FrD} (o : List FrD) (h : List (Int × Int × Bool)) (hM : M.1 = (0, N)) (hN : N ≤ 3000) (hg : OkL N g) (hn : 4000 ≤ n) :
  ∃ g', OkL N g' ∧ law14StateCopies_W0 n (0, (A, (B, (M, (g, (o, h)))))) = some (A, (B, (M, (g', (o, h))))) := by
 unfold law14StateCopies_W0
 have := zap (B := fun s => law14StateCopies_B0 n s.1 s.2.1.1 s.2.1.2.1 s.2.1.2.2.1 s.2.1.2.2.2.1 s.2.1.2.2.2.2.1 s.2.1.2.2.2.2.2.1 s.2.1.2.2.2.2.2.2 s.2.2.1.1 s.2.2.1.2.1 s.2.2.1.2.2.1 s.2.2.1.2.2.2.1 s.2.2.1.2.2.2.2.1 s.2.2.1.2.2.2.2.2.1 s.2.2.1.2.2.2.2.2.2 s.2.2.2.1.1 s.2.2.2.1.2.1 s.2.2.2.1.2.2.1 s.2.2.2.1.2.2.2.1 s.2.2.2.1.2.2.2.2.1 s.2.2.2.1.2.2.2.2.2.1 s.2.2.2.1.2.2.2.2.2.2 s.2.2.2.2.1 s.2.2.2.2.2.1 s.2.2.2.2.2.2)
  (I := fun s => ∃ (k : Nat) (g : List FrD), k ≤ N ∧ OkL N g ∧ s = ((k : Int), (A, (B, (M, (g, (o, h))))))) (m := fun s => 3001 - s.1.toNat) (Q := fun x => ∃ g', OkL N g' ∧ x = (A, (B, (M, (g', (o, h))))))
  (fun s hI => by
   obtain ⟨k, g, hk, hg, rfl⟩ := hI
   by_cases hlt : k < N
   ·obtain ⟨g', h1, h2⟩ := step0 o h hM hN hg hlt hn (A := A) (B := B)
    exact .inl ⟨_, h2, ⟨k + 1, _, by omega, h1, rfl⟩, by simp only [yd1]; omega⟩
   ·refine .inr ⟨(A, (B, (M, (g, (o, h))))), ?_, g, hg, rfl⟩
    obtain rfl : k = N := by omega
    unfold law14StateCopies_B0
    simp only [hM, show decide ((k : Int) < ((k : Nat) : Int)) = false by simp, yh]
    rw [← hM]) n _ ⟨0, g, by omega, hg, rfl⟩ (by simp only; omega)
 obtain ⟨x, h1, g', h2, rfl⟩ := this
 exact ⟨g', h2, h1⟩
theorem step6 {n N i : Nat} {A B : StD} {M : TyM} {g : List FrD} (f : List FrD) (h : List (Int × Int × Bool)) (hM : M.2.1 = (0, N)) (hN : N ≤ 3000) (hg : OkL N g) (hi : i < N) (hn : 4000 ≤ n) :
  ∃ g', OkL N g' ∧ law14StateCopies_B6 n (i : Int) A.1 A.2.1 A.2.2.1 A.2.2.2.1 A.2.2.2.2.1 A.2.2.2.2.2.1 A.2.2.2.2.2.2 B.1 B.2.1 B.2.2.1 B.2.2.2.1 B.2.2.2.2.1 B.2.2.2.2.2.1 B.2.2.2.2.2.2 M.1 M.2.1 M.2.2.1 M.2.2.2.1 M.2.2.2.2.1 M.2.2.2.2.2.1 M.2.2.2.2.2.2 f g h = some (Sum.inl (((i + 1 : Nat) : Int), (A, (B, (M, (f, (g', h))))))) := by
 obtain ⟨g1, xs, hg1, hxs, e1⟩ := loop8 (n := n) (A := A) (B := B) f h hM hN hg hi hn
 have l1 : i < g1.length := by rw [hg1.1]; exact hi
 have y1 : g1[i]? = some g1[i] := yf l1
 have z1 := hg1.2 _ (yj y1)
 generalize g1[i] = u at y1 z1
 have hg2 : OkL N (g1.set i (u.1, (u.2.1, (xs, u.2.2.2)))) := hg1.set (x := (u.1, (u.2.1, (xs, u.2.2.2)))) ⟨hxs, z1.2⟩ i
 obtain ⟨g3, ys, hg3, hys, e2⟩ := loop10 (n := n) (A := A) (B := B) f h hM hN hg2 hi hn
 have l3 : i < g3.length := by rw [hg3.1]; exact hi
 have y3 : g3[i]? = some g3[i] := yf l3
 have z3 := hg3.2 _ (yj y3)
 generalize g3[i] = w at y3 z3
 obtain ⟨Ma, Mb, Mc⟩ := M
 simp only at hM
 subst hM
 have c1 : (decide (0 ≤ (i : Int)) && decide ((i : Int) < ((N : Nat) : Int))) = true := by simp; omega
 have c0 : decide ((i : Int) < ((N : Nat) : Int)) = true := by simp; omega
 refine ⟨(g3.set i (addI .i64 w.1 1, (w.2.1, (w.2.2.1, w.2.2.2)))).set i (addI .i64 w.1 1, (w.2.1, (w.2.2.1, ys))), ?_, ?_⟩
 rotate_left
 ·unfold law14StateCopies_B6
  simp only [c0, yg]
  rw [e1]
  simp only [yc, y1]
  rw [e2]
  simp only [yc, c1, yg, yy, yd1, y3, yw l3]
  rw [zT (by omega)]
 ·exact (hg3.set (x := (addI .i64 w.1 1, (w.2.1, (w.2.2.1, w.2.2.2)))) z3 i).set (x := (addI .i64 w.1 1, (w.2.1, (w.2.2.1, ys)))) ⟨z3.1, hys⟩ i
theorem loop6 {n N : Nat} {A B : StD} {M : TyM} {g : List FrD} (f : List FrD) (h : List (Int × Int × Bool)) (hM : M.2.1 = (0, N)) (hN : N ≤ 3000) (hg : OkL N g) (hn : 4000 ≤ n) :
  ∃ g', OkL N g' ∧ law14StateCopies_W6 n (0, (A, (B, (M, (f, (g, h)))))) = some (A, (B, (M, (f, (g', h))))) := by
 unfold law14StateCopies_W6
 have := zap (B := fun s => law14StateCopies_B6 n s.1 s.2.1.1 s.2.1.2.1 s.2.1.2.2.1 s.2.1.2.2.2.1 s.2.1.2.2.2.2.1 s.2.1.2.2.2.2.2.1 s.2.1.2.2.2.2.2.2 s.2.2.1.1 s.2.2.1.2.1 s.2.2.1.2.2.1 s.2.2.1.2.2.2.1 s.2.2.1.2.2.2.2.1 s.2.2.1.2.2.2.2.2.1 s.2.2.1.2.2.2.2.2.2 s.2.2.2.1.1 s.2.2.2.1.2.1 s.2.2.2.1.2.2.1 s.2.2.2.1.2.2.2.1 s.2.2.2.1.2.2.2.2.1 s.2.2.2.1.2.2.2.2.2.1 s.2.2.2.1.2.2.2.2.2.2 s.2.2.2.2.1 s.2.2.2.2.2.1 s.2.2.2.2.2.2)
  (I := fun s => ∃ (k : Nat) (g : List FrD), k ≤ N ∧ OkL N g ∧ s = ((k : Int), (A, (B, (M, (f, (g, h))))))) (m := fun s => 3001 - s.1.toNat) (Q := fun x => ∃ g', OkL N g' ∧ x = (A, (B, (M, (f, (g', h))))))
  (fun s hI => by
   obtain ⟨k, g, hk, hg, rfl⟩ := hI
   by_cases hlt : k < N
   ·obtain ⟨g', h1, h2⟩ := step6 f h hM hN hg hlt hn (A := A) (B := B)
    exact .inl ⟨_, h2, ⟨k + 1, _, by omega, h1, rfl⟩, by simp only [yd1]; omega⟩
   ·refine .inr ⟨(A, (B, (M, (f, (g, h))))), ?_, g, hg, rfl⟩
    obtain rfl : k = N := by omega
    unfold law14StateCopies_B6
    simp only [hM, show decide ((k : Int) < ((k : Nat) : Int)) = false by simp, yh]
    rw [← hM]) n _ ⟨0, g, by omega, hg, rfl⟩ (by simp only; omega)
 obtain ⟨x, h1, g', h2, rfl⟩ := this
 exact ⟨g', h2, h1⟩
theorem loop12 {n N : Nat} {A B : StD} {M : TyM} {f o : List FrD} (h : List (Int × Int × Bool)) (hM : M.2.2.1 = (0, N)) (hN : N ≤ 3000) (hh : h.length = N) (hn : 4000 ≤ n) :
  ∃ h', law14StateCopies_W12 n (0, (A, (B, (M, (f, (o, h)))))) = some (A, (B, (M, (f, (o, h'))))) := by
 unfold law14StateCopies_W12
 have := zap (B := fun s => law14StateCopies_B12 n s.1 s.2.1.1 s.2.1.2.1 s.2.1.2.2.1 s.2.1.2.2.2.1 s.2.1.2.2.2.2.1 s.2.1.2.2.2.2.2.1 s.2.1.2.2.2.2.2.2 s.2.2.1.1 s.2.2.1.2.1 s.2.2.1.2.2.1 s.2.2.1.2.2.2.1 s.2.2.1.2.2.2.2.1 s.2.2.1.2.2.2.2.2.1 s.2.2.1.2.2.2.2.2.2 s.2.2.2.1.1 s.2.2.2.1.2.1 s.2.2.2.1.2.2.1 s.2.2.2.1.2.2.2.1 s.2.2.2.1.2.2.2.2.1 s.2.2.2.1.2.2.2.2.2.1 s.2.2.2.1.2.2.2.2.2.2 s.2.2.2.2.1 s.2.2.2.2.2.1 s.2.2.2.2.2.2)
  (I := fun s => ∃ (k : Nat) (h : List (Int × Int × Bool)), k ≤ N ∧ h.length = N ∧ s = ((k : Int), (A, (B, (M, (f, (o, h))))))) (m := fun s => 3001 - s.1.toNat) (Q := fun x => ∃ h', x = (A, (B, (M, (f, (o, h'))))))
  (fun s hI => by
   obtain ⟨k, h, hk, hh, rfl⟩ := hI
   by_cases hlt : k < N
   ·have hx : h[k]? = some (h[k]'(by omega)) := yf (by omega)
    generalize h[k]'(by omega) = x at hx
    refine .inl ⟨((((k + 1 : Nat) : Int)), (A, (B, (M, (f, (o, h.set k (x.1, ((addI .u64 x.2.1 1), x.2.2)))))))), ?_, ⟨k + 1, _, by omega, by rw [ym2]; exact hh, rfl⟩, by simp only [yd1]; omega⟩
    obtain ⟨Ma, Mb, Mc, Md⟩ := M
    simp only at hM
    subst hM
    have c1 : (decide (0 ≤ (k : Int)) && decide ((k : Int) < ((N : Nat) : Int))) = true := by simp; omega
    have c0 : decide ((k : Int) < ((N : Nat) : Int)) = true := by simp; omega
    unfold law14StateCopies_B12
    simp only [c0, show decide (0 ≤ (k : Int)) = true by simp, yk3, yg, yy, yd1, hx, yc]
    rw [zT (by omega)]
   ·refine .inr ⟨(A, (B, (M, (f, (o, h))))), ?_, h, rfl⟩
    obtain rfl : k = N := by omega
    unfold law14StateCopies_B12
    simp only [hM, show decide ((k : Int) < ((k : Nat) : Int)) = false by simp, yh]
    rw [← hM]) n _ ⟨0, h, by omega, hh, rfl⟩ (by simp only; omega)
 obtain ⟨x, h1, h', rfl⟩ := this
 exact ⟨h', h1⟩
end Sx
end
section
set_option maxRecDepth 100000
set_option synthInstance.maxSize 2000
set_option synthInstance.maxHeartbeats 400000
namespace Sx
open Go Go.Ab
def st0 : StD := ([(0, (0, ([0], [])))], ([], ([], (100, (0, (0, 0))))))
theorem begin14 : qbb 4000 ([] : List (List ((Int) × Int))) ((([] : List ((Int) × Int)), (1, (0, (((1, 0) :: ([] : List ((Int) × Int))), ((0, (0, 0)) :: ((26, (0, 0)) :: ([] : List ((Int) × (Int) × Int)))))))) :: ([] : List ((List ((Int) × Int)) × (Int) × (Int) × (List ((Int) × Int)) × List ((Int) × (Int) × Int)))) ([] : List ((List ((Int) × Int)) × (Int) × Int)) (7 :: ([] : DD)) ([] : DG) 100 = some ((st0.1, (st0.2.2.2.1, (st0.2.2.2.2.1, (st0.2.2.2.2.2.1, st0.2.2.2.2.2.2)))), 0) := by kernel_rfl
theorem small0 : SmallS st0 := by
 refine ⟨by simp [st0], fun x hx => ?_, fun x hx => ?_⟩
 ·have : x = (0, (0, ([0], []))) := by simpa [st0] using hx
  subst this; simp
 ·simp [st0] at hx
theorem ans14 : qah 4000 = some true := by
 unfold qah
 rw [begin14, yc]
 have hc := zlj (n := 4000) small0 (yx _)
 have hs := zkN (n := 4000) (a := st0) (b := st0) (small0.fine (yx _))
 have e1 : ((0 : Int) == 0) = true := rfl
 have e2 : (lenI st0.1 == 1) = true := rfl
 have e3 : getI st0.1 0 = some (0, (0, ([0], []))) := rfl
 have e4 : (lenI [(0 : Int)] == 1) = true := rfl
 have e5 : (st0.2.2.2.1 == 100) = true := rfl
 simp only [e1, e2, e3, yg, yc]
 simp only [e4, e5, yg]
 rw [show ([] : List (Int × Int × List Int × List Int)) = st0.2.1 from rfl, show ([] : List (Int × Int × Bool)) = st0.2.2.1 from rfl, hc, yc]
 simp only [show Nat.beq 0 0 = true from rfl, yg, zE (yx _), yy, yf3, zfL]
 rw [hs, yc]
 simp only [decide_true]
theorem zmD (a b : StD) (ha : LenSt a) (hb : LenSt b) : law14StateCopies 4000 a.1 a.2.1 a.2.2.1 a.2.2.2.1 a.2.2.2.2.1 a.2.2.2.2.2.1 a.2.2.2.2.2.2 b.1 b.2.1 b.2.2.1 b.2.2.2.1 b.2.2.2.2.1 b.2.2.2.2.2.1 b.2.2.2.2.2.2 = some true := by
 unfold law14StateCopies
 obtain ⟨x, e1, h1⟩ := small14 4000 a ha (by omega)
 obtain ⟨y, e2, h2⟩ := small14 4000 b hb (by omega)
 rw [e1, yc]
 cases x with
 | false => simp only [Bool.not_false, yg, ans14, yc]
 | true =>
  simp only [yn3, yh]
  rw [e2, yc]
  cases y with
  | false => simp only [Bool.not_false, yg, ans14, yc]
  | true =>
   simp only [yn3, yh]
   have sa := h1 rfl
   have fa : FineS 4000 a := sa.fine (yx _)
   rw [zqp sa (yx _), yc, zlj sa (yx _), yc]
   have n1 := sa.n
   simp only [show Nat.beq 0 0 = true from rfl, yg, zE (yx _), yy, yf3, zfL]
   rw [zkN (a := a) (b := a) fa, yc, zeQ (a := a) (b := a) fa, yc, zkN (a := a) (b := b) fa, yc, zeQ (a := a) (b := b) fa, yc]
   simp only [decide_true, yn3, yh, beq_self_eq_true]
   obtain ⟨f1, g1, l1⟩ := loop0 (n := 4000) (A := a) (B := a) (M := ((0, a.1.length), ((0, a.2.1.length), ((0, a.2.2.1.length), (a.2.2.2.1, (a.2.2.2.2.1, (a.2.2.2.2.2.1, a.2.2.2.2.2.2))))))) (g := a.1) a.2.1 a.2.2.1 rfl (by omega) ⟨rfl, sa.f⟩ (yx _)
   rw [l1, yc]
   obtain ⟨f2, g2, l2⟩ := loop6 (n := 4000) (A := a) (B := a) (M := ((0, a.1.length), ((0, a.2.1.length), ((0, a.2.2.1.length), (a.2.2.2.1, (a.2.2.2.2.1, (a.2.2.2.2.2.1, a.2.2.2.2.2.2))))))) (g := a.2.1) f1 a.2.2.1 rfl (by omega) ⟨rfl, sa.o⟩ (yx _)
   rw [l2, yc]
   obtain ⟨f3, l3⟩ := loop12 (n := 4000) (A := a) (B := a) (M := ((0, a.1.length), ((0, a.2.1.length), ((0, a.2.2.1.length), (a.2.2.2.1, (a.2.2.2.2.1, (a.2.2.2.2.2.1, a.2.2.2.2.2.2))))))) (f := f1) (o := f2) a.2.2.1 rfl (by omega) rfl (yx _)
   rw [l3, yc, ans14, yc]
   simp only [yg]
   rw [zeQ (a := a) (b := a) fa, yc]
   simp only [decide_true]
end Sx
end
section
namespace Sx
open Go Go.Ab
abbrev numsT : Ty := .sl false (.int .u64)
abbrev frT : Ty := .cons (.int .i64) (.cons (.int .i64) (.cons numsT numsT))
abbrev obT : Ty := .cons (.int .i64) (.cons (.int .i64) (.cons numsT (.sl false (.int .u8))))
abbrev haT : Ty := .cons (.int .i64) (.cons (.int .u64) .bool)
def shS : Sh := .agg (.cons (.sl true true frT) (.cons (.sl true true obT) (.cons (.sl true true haT) (.cons (.int .i64) (.cons (.int .i64) (.cons (.int .i64) (.cons (.int .u64) .nil)))))))
theorem znM {d : StD} (h : FitS shS d) : LenSt d := by
 obtain ⟨⟨l1, e1⟩, ⟨l2, e2⟩, ⟨l3, e3⟩, q, u, e, v, _⟩ : Fit (.sl true frT) d.1 ∧ Fit (.sl true obT) d.2.1 ∧ Fit (.sl true haT) d.2.2.1 ∧ Fit (.int .i64) d.2.2.2.1 ∧ Fit (.int .i64) d.2.2.2.2.1 ∧ Fit (.int .i64) d.2.2.2.2.2.1 ∧ Fit (.int .u64) d.2.2.2.2.2.2 ∧ True := h
 have f1 : ∀ x ∈ d.1, Fit (.int .i64) x.1 ∧ Fit (.int .i64) x.2.1 ∧ Fit numsT x.2.2.1 ∧ Fit numsT x.2.2.2 := e1
 have f2 : ∀ x ∈ d.2.1, Fit (.int .i64) x.1 ∧ Fit (.int .i64) x.2.1 ∧ Fit numsT x.2.2.1 ∧ Fit (.sl false (.int .u8)) x.2.2.2 := e2
 refine ⟨l1, l2, l3, fun x hx => ?_, fun x hx => ?_⟩
 ·obtain ⟨_, _, ⟨c, _⟩, ⟨k, _⟩⟩ := f1 x hx
  exact ⟨c, k⟩
 ·obtain ⟨_, _, ⟨c, _⟩, ⟨k, _⟩⟩ := f2 x hx
  exact ⟨c, k⟩
theorem zkb (d : StD × StD) (hf : FitS (.cons shS (.cons shS .nil)) d) : ∃ n, law14StateCopies n d.1.1 d.1.2.1 d.1.2.2.1 d.1.2.2.2.1 d.1.2.2.2.2.1 d.1.2.2.2.2.2.1 d.1.2.2.2.2.2.2 d.2.1 d.2.2.1 d.2.2.2.1 d.2.2.2.2.1 d.2.2.2.2.2.1 d.2.2.2.2.2.2.1 d.2.2.2.2.2.2.2 = some true := by
 obtain ⟨h1, h2, _⟩ : FitS shS d.1 ∧ FitS shS d.2 ∧ True := hf
 exact ⟨4000, zmD d.1 d.2 (znM h1) (znM h2)⟩
end Sx
end
