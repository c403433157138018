/- Plain laws. -/
import Derived.Test.YtdlbbdbbpoggfaaGreatDoorLib8
import Derived.Test.YtdlbbdbbpoggfaaGreatDoorOsSh
set_option linter.unusedVariables false
set_option linter.unusedSimpArgs false
section
namespace Sx
open Go Go.Ab
theorem cO {A : Type} {xs : List A} {i : Nat} {x : A} (h : xs[i]? = some x) : i < xs.length := (yh.1 h).1
theorem loop_two {A B' X S : Type} {xs : List A} {ys : List B'} {B : S → Option (S ⊕ X)} {mk : Nat → S} {p : A → B' → Bool} {found : Nat → A → B' → X} {e : X} (H : xs.length = ys.length)
  (U : ∀ i x y, xs[i]? = some x → ys[i]? = some y → B (mk i) = (if p x y = true then some (.inl (mk (i + 1))) else some (.inr (found i x y))))
  (K : B (mk xs.length) = some (.inr e)) (n : Nat) (hn : xs.length < n) :
  ((xs.zip ys).all (fun q => p q.1 q.2) = true ∧ aK B n (mk 0) = some e) ∨ ((xs.zip ys).all (fun q => p q.1 q.2) = false ∧ ∃ i x y, aK B n (mk 0) = some (found i x y)) := by
 have M : (xs.zip ys).length = xs.length := by simp [H]
 have h := bA (xs := xs.zip ys) (B := B) (mk := mk) (p := fun q => !p q.1 q.2) (found := fun i q => found i q.1 q.2) (e := e) (fun i q z => ?_) (by rw [M]; exact K) xs.length 0 n (by omega) hn
 ·rw [yl1] at h
  have J : (xs.zip ys).all (fun q => p q.1 q.2) = !(xs.zip ys).any (fun q => !p q.1 q.2) := by rw [yr2]
  rcases h with ⟨h1, k, q, _, _, h2⟩ | ⟨h1, h2⟩
  ·exact .inr ⟨by rw [J, h1]; rfl, k, q.1, q.2, h2⟩
  ·exact .inl ⟨by rw [J, h1]; rfl, h2⟩
 ·have O : i < (xs.zip ys).length := cO z
  rw [yd O] at z
  have z := yb z
  rw [yq3] at z
  have hx : xs[i]? = some q.1 := by rw [← z, yd]
  have N : ys[i]? = some q.2 := by rw [← z, yd]
  rw [U i q.1 q.2 hx N]
  cases p q.1 q.2 <;> rfl
def KS {A : Type} (p : A → A → Bool) (xs ys : List A) : Bool := decide (xs.length = ys.length) && (xs.zip ys).all (fun q => p q.1 q.2)
theorem vI {A B : Type} (a : List A) (b : List B) : (aA a != aA b) = !decide (a.length = b.length) := by
 rw [aC, aC]
 by_cases h : a.length = b.length
 ·simp [h]
 ·rw [decide_eq_false h]
  show (!((a.length : Int) == (b.length : Int))) = !false
  rw [beq_eq_false_iff_ne.2 (by omega)]
theorem Hz {A : Type} {p : A → A → Bool} (xs : List A) (h : ∀ x ∈ xs, p x x = true) : KS p xs xs = true := by
 unfold KS
 rw [decide_eq_true rfl, yu, yx]
 intro q z
 obtain ⟨i, hi, rfl⟩ := yp1 z
 rw [yq3]
 exact h _ (yu2 _)
theorem Ch {A : Type} {p : A → A → Bool} {xs ys : List A} (h : KS p xs ys = true) : xs.length = ys.length ∧ ∀ i (h1 : i < xs.length) (h2 : i < ys.length), p xs[i] ys[i] = true := by
 unfold KS at h
 rw [yc, decide_eq_true_eq, yx] at h
 refine ⟨h.1, fun i h1 h2 => ?_⟩
 have := h.2 (xs[i], ys[i]) (by
  have z : i < (xs.zip ys).length := by simp; omega
  have : (xs.zip ys)[i] = (xs[i], ys[i]) := by rw [yq3]
  rw [← this]; exact yu2 z)
 exact this
theorem PG {A : Type} {p : A → A → Bool} {xs ys : List A} (hl : xs.length = ys.length) (h : ∀ i (h1 : i < xs.length) (h2 : i < ys.length), p xs[i] ys[i] = true) : KS p xs ys = true := by
 unfold KS
 rw [yc, decide_eq_true_eq, yx]
 refine ⟨hl, fun q z => ?_⟩
 obtain ⟨i, H, rfl⟩ := yp1 z
 rw [yq3]
 simp at H
 exact h i (by omega) (by omega)
end Sx
end
section
namespace Sx
open Go Go.Ab
def oB (t : Int × Int) : Bool := t.1 == 2 || (t.1 == 3 || (t.1 == 4 || (t.1 == 6 || t.1 == 7)))
def gG (a b : Int × Int) : Bool := (a.1 == b.1 && a.2 == b.2) || (b.1 == 8 || (oB a && (oB b && (a.1 == 6 || b.1 == 7))))
theorem qeo_eq (n : Nat) (t : Int × Int) : qeo n t.1 t.2 = some (oB t) := by
 unfold qeo oB
 cases t.1 == 2 <;> cases t.1 == 3 <;> cases t.1 == 4 <;> cases t.1 == 6 <;> cases t.1 == 7 <;> rfl
theorem r8 (n : Nat) (t : Int × Int) : qds n t.1 t.2 = some (oB t) := by
 unfold qds oB
 cases t.1 == 2 <;> cases t.1 == 3 <;> cases t.1 == 4 <;> cases t.1 == 6 <;> cases t.1 == 7 <;> rfl
theorem qel_eq (n : Nat) (a b : Int × Int) : qel n a.1 a.2 b.1 b.2 = some (gG a b) := by
 unfold qel gG
 rw [qeo_eq n a, qeo_eq n b]
 simp only [ya]
 cases (a.1 == b.1 && a.2 == b.2) <;> cases b.1 == 8 <;> cases oB a <;> cases oB b <;> cases a.1 == 6 <;> rfl
theorem sX (n : Nat) (a b : Int × Int) : qdu n a.1 a.2 b.1 b.2 = some (gG a b) := by
 unfold qdu gG
 rw [r8 n a, r8 n b]
 simp only [ya]
 cases (a.1 == b.1 && a.2 == b.2) <;> cases b.1 == 8 <;> cases oB a <;> cases oB b <;> cases a.1 == 6 <;> rfl
theorem AI (a : Int × Int) : gG a a = true := by simp [gG]
theorem oT (a b : Int × Int) : gG a b = true ↔ a = b ∨ b.1 = 8 ∨ (oB a = true ∧ oB b = true ∧ (a.1 = 6 ∨ b.1 = 7)) := by
 unfold gG
 simp only [yc2, yc, beq_iff_eq]
 have : (a.1 = b.1 ∧ a.2 = b.2) ↔ a = b := by
  constructor
  ·intro h; exact Prod.ext h.1 h.2
  ·rintro rfl; exact ⟨rfl, rfl⟩
 rw [this]
theorem IS (t : Int × Int) : oB t = true ↔ t.1 = 2 ∨ t.1 = 3 ∨ t.1 = 4 ∨ t.1 = 6 ∨ t.1 = 7 := by simp [oB]
theorem JA {a b c : Int × Int} (h : gG a b = true) (A : gG b c = true) : gG a c = true := by
 rw [oT] at h A ⊢
 rcases A with rfl | A | ⟨h1, h2, z⟩
 ·exact h
 ·exact .inr (.inl A)
 ·rcases h with rfl | h | ⟨H, g2, g3⟩
  ·exact .inr (.inr ⟨h1, h2, z⟩)
  ·rw [IS] at h1; omega
  ·refine .inr (.inr ⟨H, h2, ?_⟩)
   rcases z with z | z
   ·left; omega
   ·exact .inr z
def eB (a b : List (Int × Int)) : Bool := KS gG a b
theorem q9 (a : List (Int × Int)) : eB a a = true := Hz a fun x _ => AI x
theorem y6 {a b c : List (Int × Int)} (h : eB a b = true) (z : eB b c = true) : eB a c = true := by
 obtain ⟨l1, A⟩ := Ch h
 obtain ⟨l2, H⟩ := Ch z
 exact PG (by omega) fun i h1 h2 => JA (A i h1 (by omega)) (H i (by omega) h2)
theorem qbx_eq (n : Nat) (a b : List (Int × Int)) (ha : a.length ≤ 5000) (hn : 6000 ≤ n) : qbx n a b = some (eB a b) := by
 unfold qbx qaq eB KS
 rw [vI]
 by_cases hl : a.length = b.length
 ·rw [decide_eq_true hl, yw, ye, yu]
  have h := loop_two (B := fun s => qaq_B0 n s.1 s.2.1 s.2.2.1 s.2.2.2) (mk := fun (i : Nat) => (b, (a, (aA a, (i : Int))))) (p := gG) (found := fun i x y => Sum.inl (false, (x, y))) (e := Sum.inr ()) hl (fun i x y hx z => ?_) ?_ n (by omega)
  ·rcases h with ⟨h1, h2⟩ | ⟨h1, i, x, y, h2⟩
   ·rw [show qaq_W0 n (b, (a, (aA a, 0))) = _ from h2, h1]; rfl
   ·rw [show qaq_W0 n (b, (a, (aA a, 0))) = _ from h2, h1]; rfl
  ·have hi := cO hx
   show qaq_B0 n b a (aA a) (i : Int) = _
   unfold qaq_B0
   rw [aC, decide_eq_true (by omega), yg, aE, hx, ya, aE, z, ya, qel_eq n x y, ya, aH (by omega)]
   cases gG x y <;> rfl
  ·show qaq_B0 n b a (aA a) (a.length : Int) = _
   unfold qaq_B0
   rw [aC, decide_eq_false (by omega), ye]
 ·rw [decide_eq_false hl]; rfl
theorem I8 (n : Nat) (a b : List (Int × Int)) (ha : a.length ≤ 5000) (hn : 6000 ≤ n) : qce n a b = some (eB a b) := by
 unfold qce eB KS
 rw [vI]
 by_cases hl : a.length = b.length
 ·rw [decide_eq_true hl, yw, ye, yu]
  have h := loop_two (B := fun s => qce_B0 n s.1 s.2.1 s.2.2) (mk := fun (i : Nat) => (a, (b, (i : Int)))) (p := gG) (found := fun i x y => Sum.inl false) (e := Sum.inr ()) hl (fun i x y hx z => ?_) ?_ n (by omega)
  ·rcases h with ⟨h1, h2⟩ | ⟨h1, i, x, y, h2⟩
   ·rw [show qce_W0 n (a, (b, 0)) = _ from h2, h1]; rfl
   ·rw [show qce_W0 n (a, (b, 0)) = _ from h2, h1]; rfl
  ·have hi := cO hx
   show qce_B0 n a b (i : Int) = _
   unfold qce_B0
   rw [aC, decide_eq_true (by omega), yg, aE, hx, ya, aE, z, ya, sX n x y, ya, aH (by omega)]
   cases gG x y <;> rfl
  ·show qce_B0 n a b (a.length : Int) = _
   unfold qce_B0
   rw [aC, decide_eq_false (by omega), ye]
 ·rw [decide_eq_false hl]; rfl
def AE (a l : List (Int × Int)) (k : Int) : Int × Int := if 0 ≤ k ∧ k < (a.length + l.length : Int) then (a ++ l).getD k.toNat (8, 0) else (8, 0)
theorem qcw_eq (n : Nat) (a : List (Int × Int)) (A r1 : Int) (l : List (Int × Int)) (c : List (Int × Int × Int)) (k : Int) (hl : a.length + l.length ≤ 4294967296) : qcw n a A r1 l c k = some (AE a l k) := by
 unfold qcw AE
 rw [aC, aC, cK (by omega) (by omega)]
 by_cases z : k ≥ 0
 ·rw [decide_eq_true z]
  simp only [yg]
  obtain ⟨j, rfl⟩ : ∃ j : Nat, k = (j : Int) := ⟨k.toNat, by omega⟩
  by_cases h1 : (j : Int) < (a.length : Int)
  ·have h : j < a.length := by omega
   rw [decide_eq_true h1, yg, aE, if_pos (by omega), yb1, yd h, ya, yl, yq h, yd h]
   rfl
  ·rw [decide_eq_false h1, ye]
   by_cases h2 : (j : Int) < (a.length : Int) + (l.length : Int)
   ·have h : j - a.length < l.length := by omega
    rw [decide_eq_true h2, yg, if_pos (by omega), bV (by omega) (by omega)]
    have : (j : Int) - (a.length : Int) = ((j - a.length : Nat) : Int) := by omega
    rw [this, aE, yd h, ya, yb1, yl, yt (by omega), yd h]
    rfl
   ·rw [decide_eq_false h2, ye, if_neg (by omega)]
 ·rw [decide_eq_false z]
  simp only [ye]
  rw [if_neg (by omega)]
theorem iP (n : Nat) (a : List (Int × Int)) (A r1 : Int) (l : List (Int × Int)) (c : List (Int × Int × Int)) (k : Int) (hl : a.length + l.length ≤ 4294967296) : qcc n a A r1 l c k = some (AE a l k) := by
 unfold qcc AE
 rw [aU (by omega), yg, aU (by rw [yi]; omega), yg, aC, yi]
 by_cases h : k < 0
 ·rw [decide_eq_true h, yg, if_neg (by omega)]
 ·rw [decide_eq_false h, ye]
  obtain ⟨j, rfl⟩ : ∃ j : Nat, k = (j : Int) := ⟨k.toNat, by omega⟩
  by_cases h1 : (j : Int) ≥ ((a.length + l.length : Nat) : Int)
  ·rw [decide_eq_true h1, yg, if_neg (by omega)]
  ·have z : j < (a ++ l).length := by rw [yi]; omega
   rw [decide_eq_false h1, ye, decide_eq_true (by omega : (0 : Int) ≤ (j : Int)), decide_eq_true (by omega : (j : Int) < ((a.length + l.length : Nat) : Int)), yd2, yg, if_pos (by omega), yb1, yd z,
    ya, yl, yd z]
   rfl
end Sx
end
section
namespace Sx
open Go Go.Ab
def Ds : Nat → Nat → List Int
 | 0, v => [(v : Int)]
 | k + 1, v => if v < 128 then [(v : Int)] else ((128 + v % 128 : Nat) : Int) :: Ds k (v / 128)
def bJ (v : Nat) : List Int := Ds 10 v
theorem C1 : ∀ (k v : Nat), 1 ≤ (Ds k v).length ∧ (Ds k v).length ≤ k + 1
 | 0, v => ⟨yz _, yz _⟩
 | k + 1, v => by
  unfold Ds
  split
  ·exact ⟨by simp, by simp⟩
  ·have := C1 k (v / 128)
   rw [ye1]; omega
theorem aS (v : Nat) : 1 ≤ (bJ v).length ∧ (bJ v).length ≤ 11 := C1 10 v
theorem PX (v : Nat) : Qd .u8 (aY .u8 (v : Int)) 128 = ((128 + v % 128 : Nat) : Int) := by
 rw [BF]
 have h : ∀ m : Nat, m < 256 → Qd .u8 (m : Int) 128 = ((128 + m % 128 : Nat) : Int) := by decide +kernel
 have := h (v % 256) (by omega)
 rw [show ((v : Int) % 256) = ((v % 256 : Nat) : Int) by omega, this]
 omega
theorem QB (v : Nat) : LH .u64 (v : Int) 7 = ((v / 128 : Nat) : Int) := by
 show (v : Int).fdiv (2 ^ (min (7 : Int).toNat 64)) = _
 rw [show ((2 : Int) ^ (min (7 : Int).toNat 64)) = 128 from rfl, Int.fdiv_eq_ediv_of_nonneg _ (by omega)]
 omega
theorem qeq_loop (n : Nat) : ∀ (k v m : Nat) (acc : List Int), v < 128 ^ (k + 1) → acc.length + k ≤ 4294967000 → k < m → ∃ r, aK (fun s => qeq_B0 n s.1 s.2) m ((v : Int), acc) = some r ∧ 0 ≤ r.1 ∧ r.1 ≤ 127 ∧ r.2 ++ [r.1] = acc ++ Ds k v ∧ r.2.length ≤ acc.length + k
 | 0, v, m + 1, acc, z, J, hm => by
  refine ⟨((v : Int), acc), bG ?_, by omega, by simp only []; omega, rfl, by simp⟩
  show qeq_B0 n (v : Int) acc = _
  unfold qeq_B0
  rw [decide_eq_false (by omega), ye]
 | k + 1, v, m + 1, acc, z, J, hm => by
  by_cases h : v < 128
  ·refine ⟨((v : Int), acc), bG ?_, by omega, by simp only []; omega, by simp [Ds, h], by simp⟩
   show qeq_B0 n (v : Int) acc = _
   unfold qeq_B0
   rw [decide_eq_false (by omega), ye]
  ·have A : qeq_B0 n (v : Int) acc = some (Sum.inl (((v / 128 : Nat) : Int), acc ++ [((128 + v % 128 : Nat) : Int)])) := by
    unfold qeq_B0
    rw [decide_eq_true (by omega), yg, PX, QB, aU (by simp; omega), yg]
   rw [bM (s := ((v : Int), acc)) A]
   obtain ⟨r, h1, h2, M, K, H⟩ := qeq_loop n k (v / 128) m (acc ++ [((128 + v % 128 : Nat) : Int)]) (by rw [Nat.pow_succ] at z; omega) (by simp; omega) (by omega)
   refine ⟨r, h1, h2, M, ?_, by simp at H; omega⟩
   rw [K, Ds, if_neg h]
   simp
 | _, _, 0, _, _, _, hm => by omega
theorem qeq_eq (n v : Nat) (hv : v < 18446744073709551616) (hn : 20 ≤ n) : qeq n (v : Int) = some (bJ v) := by
 unfold qeq
 obtain ⟨r, h1, h2, h3, h, h5⟩ := qeq_loop n 10 v n [] (by omega) (by simp) (by omega)
 rw [show qeq_W0 n ((v : Int), []) = some r from h1, ya, p5 h2 (by omega), h, aU (by have := aS v; simp [bJ] at this; simp; omega), yg]
 rfl
theorem Pp {v : Nat} (hv : v < 18446744073709551616) : ME .u64 (v : Int) 128 = ((v / 128 : Nat) : Int) := by
 show IntKind.u64.wrap ((v : Int).tdiv 128) = _
 rw [Int.tdiv_eq_ediv_of_nonneg (by omega), z0]
 omega
theorem HF (n : Nat) : ∀ (k v d : Nat), v < 128 ^ (k + 1) → v < 18446744073709551616 → k < d → k ≤ 11 → qeg_D n d (v : Int) = some (Ds k v)
 | 0, v, d + 1, A, z, H, J => by
  show qeg_S n (qeg_D n d) (v : Int) = _
  unfold qeg_S
  rw [decide_eq_true (by omega), yg, p5 (by omega) (by omega)]; rfl
 | k + 1, v, d + 1, A, z, H, J => by
  show qeg_S n (qeg_D n d) (v : Int) = _
  unfold qeg_S
  by_cases h : v < 128
  ·rw [decide_eq_true (by omega), yg, p5 (by omega) (by omega), Ds, if_pos h]
  ·have hl := C1 k (v / 128)
   rw [decide_eq_false (by omega), ye, Pp z, HF n k (v / 128) d (by rw [Nat.pow_succ] at A; omega) (by omega) (by omega) (by omega), ya, Bx (by omega)]
   have h1 : aI .u64 128 ((v : Int) % 128) = ((128 + v % 128 : Nat) : Int) := by
    show IntKind.u64.wrap _ = _
    rw [z0]; omega
   rw [h1, p5 (by omega) (by omega), aU (by simp; omega), yg, Ds, if_neg h]
   rfl
 | _, _, 0, _, _, H, _ => by omega
theorem dS (n v : Nat) (h : v < 18446744073709551616) (hn : 20 ≤ n) : qeg n (v : Int) = some (bJ v) := HF n 10 v n (by omega) h (by omega) (by omega)
def s8 (k v : Nat) : List Int := (List.range k).map fun i => ((v / 256 ^ i % 256 : Nat) : Int)
theorem lZ (k v : Nat) : (s8 k v).length = k := by simp [s8]
def FJ (k : Int) : Nat := k.toNat
def kK (t : Int × Int) : List Int := bJ (FJ t.1) ++ bJ (FJ t.2)
theorem fH (t : Int × Int) : (kK t).length ≤ 22 := by
 have := aS (FJ t.1)
 have := aS (FJ t.2)
 rw [kK, yi]; omega
def OJ (x : Int) : Prop := -9223372036854775808 ≤ x ∧ x ≤ 9223372036854775807
def PM (t : Int × Int) : Prop := OJ t.1 ∧ OJ t.2
theorem M0 {k : Int} (h : OJ k) : FJ k < 18446744073709551616 := by
 unfold FJ; unfold OJ at h; omega
theorem Pc {k : Int} (h : OJ k) : aY .u64 (It k 0) = ((FJ k : Nat) : Int) := by
 unfold It FJ; unfold OJ at h
 by_cases h0 : k < 0
 ·rw [decide_eq_true (by omega), yg]
  have : k.toNat = 0 := by omega
  rw [this]; rfl
 ·rw [decide_eq_false (by omega), ye, cW (by omega) (by omega)]; omega
theorem qen_eq (n : Nat) (t : Int × Int) (ht : PM t) (hn : 20 ≤ n) : qen n t.1 t.2 = some (kK t) := by
 unfold qen
 have hl := fH t
 rw [Pc ht.1, Pc ht.2, qeq_eq n _ (M0 ht.1) hn, ya, qeq_eq n _ (M0 ht.2) hn, ya]
 show (bif Nat.ble (kK t).length 4294967296 then some (kK t) else none) = _
 rw [aU (by omega), yg]
theorem wK (n : Nat) (t : Int × Int) (ht : PM t) (hn : 20 ≤ n) : qdj n t.1 t.2 = some (kK t) := by
 have hl := fH t
 have H : ∀ {k : Int}, OJ k → k < 0 → qeg n (aY .u64 0) = some (bJ (FJ k)) := by
  intro k J h
  rw [show aY .u64 0 = ((0 : Nat) : Int) from rfl, dS n 0 (by omega) hn]
  have : FJ k = 0 := by unfold FJ; omega
  rw [this]
 have h1 : ∀ {k : Int}, OJ k → ¬ k < 0 → qeg n (aY .u64 k) = some (bJ (FJ k)) := by
  intro k J h
  unfold OJ at J
  have : aY .u64 k = ((FJ k : Nat) : Int) := by
   rw [cW (by omega) (by omega)]; unfold FJ; omega
  rw [this, dS n _ (by unfold FJ; omega) hn]
 have fin : (bif Nat.ble (bJ (FJ t.1) ++ bJ (FJ t.2)).length 4294967296 then some (bJ (FJ t.1) ++ bJ (FJ t.2)) else none) = some (kK t) := by
  show (bif Nat.ble (kK t).length 4294967296 then some (kK t) else none) = _
  rw [aU (by omega), yg]
 unfold qdj
 by_cases A : t.1 < 0
 ·by_cases z : t.2 < 0
  ·rw [decide_eq_true A, yg, decide_eq_true z, yg, H ht.1 A, ya]
   have := H ht.2 z
   rw [H ht.1 A] at this
   rw [ya, yb this, ← yb this]
   rw [yb this] at fin ⊢
   exact fin
  ·rw [decide_eq_true A, yg, decide_eq_false z, ye, H ht.1 A, ya, h1 ht.2 z, ya]
   exact fin
 ·by_cases z : t.2 < 0
  ·rw [decide_eq_false A, ye, decide_eq_true z, yg, h1 ht.1 A, ya, H ht.2 z, ya]
   exact fin
  ·rw [decide_eq_false A, ye, decide_eq_false z, ye, h1 ht.1 A, ya, h1 ht.2 z, ya]
   exact fin
def fK (recs : Int) (t : Int × Int) : Bool :=
 if t.1 = 1 ∨ t.1 = 2 ∨ t.1 = 3 ∨ t.1 = 7 then t.2 == 0 else if t.1 = 4 then decide (0 ≤ t.2 ∧ t.2 < recs) else if t.1 = 5 then decide (0 ≤ t.2 ∧ t.2 < 4) else false
theorem Cf (n : Nat) (t : Int × Int) (recs : Int) : qdw n t.1 t.2 recs = some (fK recs t) := by
 obtain ⟨k, m⟩ := t
 unfold qdw fK
 simp only [yr3, beq_iff_eq, decide_eq_true_eq]
 by_cases h1 : k = 1
 ·simp [h1]
 by_cases h2 : k = 2
 ·simp [h2]
 by_cases H : k = 3
 ·simp [H]
 by_cases h : k = 7
 ·simp [h]
 by_cases A : k = 4
 ·by_cases hm : 0 ≤ m <;> simp [A, hm]
 by_cases z : k = 5
 ·by_cases hm : 0 ≤ m <;> simp [z, hm]
 simp [h1, h2, H, A, z, h]
theorem wV (n : Nat) (t : Int × Int) (recs : Int) : qde n t.1 t.2 recs = some (fK recs t) := Cf n t recs
end Sx
end
section
namespace Sx
open Go Go.Ab
def eN (op : Int) : Int :=
 if op < 0 ∨ 42 ≤ op then -1 else if op = 29 ∨ op = 30 then 2
 else if op = 0 ∨ op = 1 ∨ op = 3 ∨ op = 4 ∨ op = 23 ∨ op = 24 ∨ op = 25 ∨ op = 27 ∨ op = 28 then 1 else 0
theorem A7 (op : Int) : eN op = -1 ∨ eN op = 0 ∨ eN op = 1 ∨ eN op = 2 := by
 unfold eN
 split
 ·exact .inl rfl
 ·split
  ·exact .inr (.inr (.inr rfl))
  ·split
   ·exact .inr (.inr (.inl rfl))
   ·exact .inr (.inl rfl)
theorem rH {op : Int} (h : 0 ≤ eN op) : 0 ≤ op ∧ op < 42 := by
 unfold eN at h
 split at h <;> omega
theorem qee_eq (n : Nat) (op : Int) : qee n op = some (eN op) := by
 by_cases h : 0 ≤ op ∧ op < 42
 ·obtain ⟨k, rfl⟩ : ∃ k : Nat, op = (k : Int) := ⟨op.toNat, by omega⟩
  have A : ∀ k : Nat, k < 42 → qee 0 (k : Int) = some (eN (k : Int)) := by decide +kernel
  exact A k (by omega)
 ·have H : eN op = -1 := by
   unfold eN
   rw [if_pos (by omega)]
  rw [H]
  unfold qee
  simp only [yr3, beq_iff_eq, decide_eq_true_eq]
  rw [if_neg (by omega), if_neg (by omega), if_neg (by omega), if_neg (by omega), if_neg (by omega), if_neg (by omega), if_neg (by omega), if_neg (by omega), if_neg (by omega), if_neg (by omega), if_neg (by omega)]
  by_cases z : op < 0
  ·rw [if_pos z]
  ·rw [if_neg z, if_pos (by omega)]
theorem JB (n : Nat) (op : Int) (hn : 10 ≤ n) : qdh n op = some (eN op) := by
 by_cases h : 0 ≤ op ∧ op < 42
 ·obtain ⟨k, rfl⟩ : ∃ k : Nat, op = (k : Int) := ⟨op.toNat, by omega⟩
  have K : ∀ k : Nat, k < 42 → qdh 10 (k : Int) = some (eN (k : Int)) := by decide +kernel
  have z := K k (by omega)
  unfold qdh at z ⊢
  rw [decide_eq_false (by omega), ye, decide_eq_false (by omega), ye] at z ⊢
  cases H : ((k : Int) == 29) with
  | true => rw [H] at z; exact z
  | false =>
   rw [H, ye] at z
   rw [ye]
   cases A : ((k : Int) == 30) with
   | true => rw [A] at z; exact z
   | false =>
    rw [A, ye] at z
    rw [ye]
    obtain ⟨x, hx, M⟩ := yo1.1 z
    rw [show qdh_W0 n ((k : Int), [0, 1, 3, 4, 23, 24, 25, 27, 28], 0) = some x from Dn (n := 10) hx n hn]
    exact M
 ·have N : eN op = -1 := by
   unfold eN
   rw [if_pos (by omega)]
  rw [N]
  unfold qdh
  simp only [yr3, beq_iff_eq, decide_eq_true_eq]
  by_cases J : op < 0
  ·rw [if_pos J]
  ·rw [if_neg J, if_pos (by omega)]
theorem qep_eq (n : Nat) (v : Int) (b : Bool) : qep n v b = some (decide (0 ≤ v ∧ v ≤ 255 ∧ (b = true ∨ v = 0))) := by
 unfold qep
 simp only [yr3, decide_eq_true_eq]
 by_cases h1 : v ≥ 0
 ·by_cases h2 : v ≤ 255
  ·cases b with
   | true => rw [if_pos h1, if_pos h2, if_pos rfl, decide_eq_true (by simp; omega)]
   | false =>
    rw [if_pos h1, if_pos h2, if_neg (by simp)]
    by_cases h : v = 0
    ·simp [h]
    ·rw [beq_false_of_ne h, decide_eq_false (by simp; omega)]
  ·rw [if_pos h1, if_neg h2, decide_eq_false (by omega)]
 ·rw [if_neg h1, decide_eq_false (by omega)]
def jB (i : Int × Int × Int) : Bool :=
 decide (eN i.1 < 0 ∨ ¬ (0 ≤ i.2.1 ∧ i.2.1 ≤ 255 ∧ (eN i.1 > 0 ∨ i.2.1 = 0)) ∨ ¬ (0 ≤ i.2.2 ∧ i.2.2 ≤ 255 ∧ (eN i.1 > 1 ∨ i.2.2 = 0)))
def kP (i : Int × Int × Int) : List Int :=
 if jB i = true then [] else i.1 :: ((if eN i.1 > 0 then bJ i.2.1.toNat else []) ++ (if eN i.1 > 1 then bJ i.2.2.toNat else []))
theorem rL (i : Int × Int × Int) : (kP i).length ≤ 23 := by
 unfold kP
 have := aS i.2.1.toNat
 have := aS i.2.2.toNat
 split
 ·simp
 ·rw [ye1, yi]
  split <;> split <;> simp <;> omega
theorem I9 (i : Int × Int × Int) : ((kP i).length == 0) = jB i := by
 unfold kP
 cases jB i <;> simp
theorem Ca (n : Nat) (v : Int) (h1 : 0 ≤ v) (h2 : v ≤ 255) (hn : 20 ≤ n) : qeq n (aY .u64 v) = some (bJ v.toNat) ∧ qeg n (aY .u64 v) = some (bJ v.toNat) := by
 have : aY .u64 v = ((v.toNat : Nat) : Int) := by rw [cW h1 (by omega)]; omega
 rw [this]
 exact ⟨qeq_eq n _ (by omega) hn, dS n _ (by omega) hn⟩
theorem qek_eq (n : Nat) (i : Int × Int × Int) (hn : 20 ≤ n) : qek n i.1 i.2.1 i.2.2 = some (kP i) := by
 obtain ⟨op, a, b⟩ := i
 unfold qek kP jB
 rw [qee_eq, ya]
 simp only []
 by_cases K : eN op < 0
 ·rw [decide_eq_true K, yg, if_pos (by rw [decide_eq_true (.inl K)])]
 rw [decide_eq_false K, ye, qep_eq, ya]
 by_cases h1 : 0 ≤ a ∧ a ≤ 255 ∧ (eN op > 0 ∨ a = 0)
 ·have A : 0 ≤ a ∧ a ≤ 255 ∧ (decide (eN op > 0) = true ∨ a = 0) := by simpa using h1
  rw [decide_eq_true A, yw, ye, qep_eq, ya]
  by_cases h2 : 0 ≤ b ∧ b ≤ 255 ∧ (eN op > 1 ∨ b = 0)
  ·have H : 0 ≤ b ∧ b ≤ 255 ∧ (decide (eN op > 1) = true ∨ b = 0) := by simpa using h2
   have M := rH (op := op) (by omega)
   rw [decide_eq_true H, yw, ye, if_neg (by rw [decide_eq_false]; simp; exact fun h => by rcases h with h | h | h; exact K h; exact h h1; exact h h2), p5 M.1 (by omega)]
   have N := (Ca n a h1.1 h1.2.1 hn).1
   have O := (Ca n b h2.1 h2.2.1 hn).1
   have la := aS a.toNat
   have lb := aS b.toNat
   rcases A7 op with J | J | J | J
   ·omega
   ·rw [J]
    obtain ⟨m, rfl⟩ : ∃ m, n = m + 1 := ⟨n - 1, by omega⟩
    rw [show (decide ((0 : Int) ≤ 0) && decide ((0 : Int) ≤ 2)) = true from rfl, yg]
    have h : qek_W0 (m + 1) (((0, (Int.toNat 0) - 0), (((((Int.toNat 0) - 0) : Nat) : Int), 0)), ([op], (a, b))) = some ([op], (a, b)) := by
     refine bG ?_
     rfl
    rw [h]
    rfl
   ·rw [J]
    obtain ⟨m, rfl⟩ : ∃ m, n = m + 2 := ⟨n - 2, by omega⟩
    rw [show (decide ((0 : Int) ≤ 1) && decide ((1 : Int) ≤ 2)) = true from rfl, yg]
    have h : qek_W0 (m + 2) (((0, (Int.toNat 1) - 0), (((((Int.toNat 1) - 0) : Nat) : Int), 0)), ([op], (a, b))) = some ([op] ++ bJ a.toNat, (a, b)) := by
     refine (bM (s' := (((0, 1), ((1 : Int), (1 : Int))), ([op] ++ bJ a.toNat, (a, b)))) ?_).trans (bG ?_)
     ·show ((qeq (m + 2) (aY .u64 a)).bind fun z => bif Nat.ble ([op] ++ z).length 4294967296 then some (Sum.inl (((0, 1), ((1 : Int), (aI .i64 0 1))), (([op] ++ z), (a, b)))) else none) = _
      rw [N, ya, aU (by simp; omega)]
      rfl
     ·rfl
    rw [h]
    simp
   ·rw [J]
    obtain ⟨m, rfl⟩ : ∃ m, n = m + 3 := ⟨n - 3, by omega⟩
    rw [show (decide ((0 : Int) ≤ 2) && decide ((2 : Int) ≤ 2)) = true from rfl, yg]
    have h : qek_W0 (m + 3) (((0, (Int.toNat 2) - 0), (((((Int.toNat 2) - 0) : Nat) : Int), 0)), ([op], (a, b))) = some (([op] ++ bJ a.toNat) ++ bJ b.toNat, (a, b)) := by
     refine (bM (s' := (((0, 2), ((2 : Int), (1 : Int))), ([op] ++ bJ a.toNat, (a, b)))) ?_).trans ((bM (s' := (((0, 2), ((2 : Int), (2 : Int))), (([op] ++ bJ a.toNat) ++ bJ b.toNat, (a, b)))) ?_).trans (bG ?_))
     ·show ((qeq (m + 3) (aY .u64 a)).bind fun z => bif Nat.ble ([op] ++ z).length 4294967296 then some (Sum.inl (((0, 2), ((2 : Int), (aI .i64 0 1))), (([op] ++ z), (a, b)))) else none) = _
      rw [N, ya, aU (by simp; omega)]
      rfl
     ·show ((qeq (m + 3) (aY .u64 b)).bind fun z => bif Nat.ble (([op] ++ bJ a.toNat) ++ z).length 4294967296 then some (Sum.inl (((0, 2), ((2 : Int), (aI .i64 1 1))), ((([op] ++ bJ a.toNat) ++ z), (a, b)))) else none) = _
      rw [O, ya, aU (by simp; omega)]
      rfl
     ·rfl
    rw [h]
    simp
  ·have H : ¬ (0 ≤ b ∧ b ≤ 255 ∧ (decide (eN op > 1) = true ∨ b = 0)) := by simpa using h2
   rw [decide_eq_false H, yx2, yg, if_pos (by rw [decide_eq_true (.inr (.inr h2))])]
 ·have A : ¬ (0 ≤ a ∧ a ≤ 255 ∧ (decide (eN op > 0) = true ∨ a = 0)) := by simpa using h1
  rw [decide_eq_false A, yx2, yg, if_pos (by rw [decide_eq_true (.inr (.inl h1))])]
theorem HW (n : Nat) (i : Int × Int × Int) (hn : 20 ≤ n) : qbz n i.1 i.2.1 i.2.2 = some (kP i) := by
 obtain ⟨op, a, b⟩ := i
 unfold qbz kP jB
 rw [JB n _ (by omega), ya]
 simp only [yr3, decide_eq_true_eq, bne_iff_ne]
 by_cases O : eN op < 0
 ·rw [if_pos O, if_pos (.inl O)]
 rw [if_neg O]
 by_cases z : a < 0
 ·rw [if_pos z, if_pos (by omega)]
 rw [if_neg z]
 by_cases A : a > 255
 ·rw [if_pos A, if_pos (by omega)]
 rw [if_neg A]
 by_cases J : b < 0
 ·rw [if_pos J, if_pos (by omega)]
 rw [if_neg J]
 by_cases K : b > 255
 ·rw [if_pos K, if_pos (by omega)]
 rw [if_neg K]
 have M := rH (op := op) (by omega)
 have W := (Ca n a (by omega) (by omega) hn).2
 have V := (Ca n b (by omega) (by omega) hn).2
 have la := aS a.toNat
 have lb := aS b.toNat
 rw [p5 M.1 (by omega), W, V]
 simp only [ya]
 have U : Nat.ble ([op] ++ bJ a.toNat).length 4294967296 = true := aU (by simp; omega)
 have Z : Nat.ble ([op] ++ bJ b.toNat).length 4294967296 = true := aU (by simp; omega)
 have Y : Nat.ble (([op] ++ bJ a.toNat) ++ bJ b.toNat).length 4294967296 = true := aU (by simp; omega)
 rw [U, Z, Y]
 rcases A7 op with h | h | h | h
 ·omega
 ·rw [h]
  by_cases N : a = 0
  ·by_cases H : b = 0
   ·simp [N, H]
   ·simp [N, H]
  ·simp [N]
 ·rw [h]
  by_cases H : b = 0
  ·simp [H]; omega
  ·simp [H]
 ·rw [h]
  simp; omega
end Sx
end
section
namespace Sx
open Go Go.Ab
abbrev cQ := Int × Int
abbrev B0 := Int × Int × Int
abbrev iT := List cQ × Int × Int × List cQ × List B0
abbrev Mw := List cQ × Int × Int
def bN (recs most : Int) (l : List cQ) : Bool := decide ((l.length : Int) ≤ most) && l.all (fK recs)
theorem Nc (n : Nat) (l : List cQ) (recs : Int) (hl : l.length ≤ 4294967000) (hn : l.length < n) : qs n l recs = some (l.any (fun t => !fK recs t), recs) := by
 unfold qs qap
 have h := bA (B := fun s => qap_B0 n s.1.1 s.1.2.1 s.1.2.2 s.2) (xs := l) (mk := fun i => ((l, (aA l, (i : Int))), recs)) (p := fun t => !fK recs t) (found := fun i x => Sum.inl ((i : Int), recs)) (e := Sum.inr recs)
  (fun i x hx => ?_) ?_ l.length 0 n (by omega) hn
 ·rw [yl1] at h
  rcases h with ⟨h1, k, x, _, _, h2⟩ | ⟨h1, h2⟩
  ·rw [show qap_W0 n ((l, (aA l, 0)), recs) = some (Sum.inl ((k : Int), recs)) from h2, h1]
   show some (decide ((k : Int) ≥ 0), recs) = _
   rw [decide_eq_true (by omega)]
  ·rw [show qap_W0 n ((l, (aA l, 0)), recs) = some (Sum.inr recs) from h2, h1]
   rfl
 ·have hi := aN hx
  show qap_B0 n l (aA l) (i : Int) recs = _
  unfold qap_B0 qbg
  rw [aC, decide_eq_true (by omega), yg, aE, hx, ya, Cf, ya, ya, aH (by omega)]
  cases fK recs x <;> rfl
 ·show qap_B0 n l (aA l) (l.length : Int) recs = _
  unfold qap_B0
  rw [aC, decide_eq_false (by omega), ye]
theorem s1 {α : Type} (p : α → Bool) (l : List α) : (!l.any fun t => !p t) = l.all p := by
 induction l with
 | nil => rfl
 | cons x l h => rw [List.any_cons, ye3, ← h]; cases p x <;> simp
theorem NQ (n : Nat) (l : List cQ) (recs h : Int) (hl : l.length ≤ 4294967000) (hn : l.length < n) : qcd n l recs h = some (bN recs h l) := by
 unfold qcd bN
 rw [aC, Nc n l recs hl hn, ya]
 show (bif decide ((l.length : Int) ≤ h) then some (!l.any fun t => !fK recs t) else some false) = _
 rw [s1]
 cases decide ((l.length : Int) ≤ h) <;> rfl
theorem sD (n : Nat) (l : List cQ) (recs z : Int) (hm : z ≤ 64) (hn : 100 ≤ n) : qcd n l recs z = some (bN recs z l) := by
 by_cases h : (l.length : Int) ≤ z
 ·exact NQ n l recs z (by omega) (by omega)
 ·unfold qcd bN
  rw [aC, decide_eq_false h, ye]
  rfl
theorem Lq (n : Nat) (l : List (List cQ)) (recs : Int) (hl : l.length ≤ 64) (hn : 100 ≤ n) : qg n l recs = some (l.any (fun t => !bN recs 6 t), recs) := by
 unfold qg qw
 have h := bA (B := fun s => qw_B0 n s.1.1 s.1.2.1 s.1.2.2 s.2) (xs := l) (mk := fun i => ((l, (aA l, (i : Int))), recs)) (p := fun t => !bN recs 6 t) (found := fun i x => Sum.inl ((i : Int), recs)) (e := Sum.inr recs)
  (fun i x hx => ?_) ?_ l.length 0 n (by omega) (by omega)
 ·rw [yl1] at h
  rcases h with ⟨h1, k, x, _, _, h2⟩ | ⟨h1, h2⟩
  ·rw [show qw_W0 n ((l, (aA l, 0)), recs) = some (Sum.inl ((k : Int), recs)) from h2, h1]
   show some (decide ((k : Int) ≥ 0), recs) = _
   rw [decide_eq_true (by omega)]
  ·rw [show qw_W0 n ((l, (aA l, 0)), recs) = some (Sum.inr recs) from h2, h1]
   rfl
 ·have hi := aN hx
  show qw_B0 n l (aA l) (i : Int) recs = _
  unfold qw_B0 qbi
  rw [aC, decide_eq_true (by omega), yg, aE, hx, ya, sD n x recs 6 (by omega) hn, ya, ya, aH (by omega)]
  cases bN recs 6 x <;> rfl
 ·show qw_B0 n l (aA l) (l.length : Int) recs = _
  unfold qw_B0
  rw [aC, decide_eq_false (by omega), ye]
theorem Ml (n : Nat) (l : List B0) (hl : l.length ≤ 64) (hn : 100 ≤ n) : qm n l = some (l.any jB) := by
 unfold qm qak
 have h := bA (B := fun s => qak_B0 n s.1 s.2.1 s.2.2) (xs := l) (mk := fun i => (l, (aA l, (i : Int)))) (p := jB) (found := fun i x => Sum.inl (i : Int)) (e := Sum.inr ())
  (fun i x hx => ?_) ?_ l.length 0 n (by omega) (by omega)
 ·rw [yl1] at h
  rcases h with ⟨h1, k, x, _, _, h2⟩ | ⟨h1, h2⟩
  ·rw [show qak_W0 n (l, (aA l, 0)) = some (Sum.inl (k : Int)) from h2, h1]
   show some (decide ((k : Int) ≥ 0)) = _
   rw [decide_eq_true (by omega)]
  ·rw [show qak_W0 n (l, (aA l, 0)) = some (Sum.inr ()) from h2, h1]
   rfl
 ·have hi := aN hx
  show qak_B0 n l (aA l) (i : Int) = _
  unfold qak_B0 qah
  rw [aC, decide_eq_true (by omega), yg, aE, hx, ya, qek_eq n x (by omega), ya, ya, aH (by omega), aC]
  have : (((kP x).length : Int) == 0) = jB x := by
   rw [← I9]
   cases (kP x).length <;> rfl
  rw [this]
  cases jB x <;> rfl
 ·show qak_B0 n l (aA l) (l.length : Int) = _
  unfold qak_B0
  rw [aC, decide_eq_false (by omega), ye]
def oF (recs : Int) (f : iT) : Bool :=
 bN recs 4 f.1 && (fK recs (f.2.1, f.2.2.1) && (bN recs (8 - (f.1.length : Int)) f.2.2.2.1 && (decide (1 ≤ f.2.2.2.2.length) && (decide (f.2.2.2.2.length ≤ 64) && !f.2.2.2.2.any jB))))
theorem Ow (n : Nat) (f : iT) (recs : Int) (hn : 100 ≤ n) : qan n f.1 f.2.1 f.2.2.1 f.2.2.2.1 f.2.2.2.2 recs = some (oF recs f) := by
 obtain ⟨a, k, m, l, c⟩ := f
 unfold qan oF
 rw [sD n a recs 4 (by omega) hn, ya]
 simp only []
 cases h : bN recs 4 a with
 | false => rfl
 | true =>
  have ha : (a.length : Int) ≤ 4 := by
   simp only [bN, yc, decide_eq_true_eq] at h
   exact h.1
  rw [yg, Cf n (k, m) recs, ya]
  cases fK recs (k, m) with
  | false => rfl
  | true =>
   rw [yg, aC, bV (by omega) (by omega), sD n l recs _ (by omega) hn, ya]
   cases bN recs (8 - (a.length : Int)) l with
   | false => rfl
   | true =>
    rw [yg, aC]
    by_cases h1 : 1 ≤ c.length
    ·rw [decide_eq_true (by omega), yg, decide_eq_true h1]
     by_cases h2 : c.length ≤ 64
     ·rw [decide_eq_true (by omega), yg, decide_eq_true h2, Ml n c h2 hn, ya]
      simp
     ·rw [decide_eq_false (by omega), ye, decide_eq_false h2]
      rfl
    ·rw [decide_eq_false (by omega), ye, decide_eq_false h1]
     rfl
theorem Nh (n : Nat) (l : List iT) (recs : Int) (hl : l.length ≤ 64) (hn : 100 ≤ n) : qt n l recs = some (l.any (fun t => !oF recs t), recs) := by
 unfold qt qao
 have h := bA (B := fun s => qao_B0 n s.1.1 s.1.2.1 s.1.2.2 s.2) (xs := l) (mk := fun i => ((l, (aA l, (i : Int))), recs)) (p := fun t => !oF recs t) (found := fun i x => Sum.inl ((i : Int), recs)) (e := Sum.inr recs)
  (fun i x hx => ?_) ?_ l.length 0 n (by omega) (by omega)
 ·rw [yl1] at h
  rcases h with ⟨h1, k, x, _, _, h2⟩ | ⟨h1, h2⟩
  ·rw [show qao_W0 n ((l, (aA l, 0)), recs) = some (Sum.inl ((k : Int), recs)) from h2, h1]
   show some (decide ((k : Int) ≥ 0), recs) = _
   rw [decide_eq_true (by omega)]
  ·rw [show qao_W0 n ((l, (aA l, 0)), recs) = some (Sum.inr recs) from h2, h1]
   rfl
 ·have hi := aN hx
  show qao_B0 n l (aA l) (i : Int) recs = _
  unfold qao_B0 qbe
  rw [aC, decide_eq_true (by omega), yg, aE, hx, ya, Ow n x recs hn, ya, ya, aH (by omega)]
  cases oF recs x <;> rfl
 ·show qao_B0 n l (aA l) (l.length : Int) recs = _
  unfold qao_B0
  rw [aC, decide_eq_false (by omega), ye]
def qG (recs : Int) (i : Mw) : Bool := bN recs 4 i.1 && fK recs (i.2.1, i.2.2)
theorem Jp (n : Nat) (l : List Mw) (recs : Int) (hl : l.length ≤ 64) (hn : 100 ≤ n) : qd n l recs = some (l.any (fun t => !qG recs t), recs) := by
 unfold qd qaf
 have h := bA (B := fun s => qaf_B0 n s.1.1 s.1.2.1 s.1.2.2 s.2) (xs := l) (mk := fun i => ((l, (aA l, (i : Int))), recs)) (p := fun t => !qG recs t) (found := fun i x => Sum.inl ((i : Int), recs)) (e := Sum.inr recs)
  (fun i x hx => ?_) ?_ l.length 0 n (by omega) (by omega)
 ·rw [yl1] at h
  rcases h with ⟨h1, k, x, _, _, h2⟩ | ⟨h1, h2⟩
  ·rw [show qaf_W0 n ((l, (aA l, 0)), recs) = some (Sum.inl ((k : Int), recs)) from h2, h1]
   show some (decide ((k : Int) ≥ 0), recs) = _
   rw [decide_eq_true (by omega)]
  ·rw [show qaf_W0 n ((l, (aA l, 0)), recs) = some (Sum.inr recs) from h2, h1]
   rfl
 ·have hi := aN hx
  show qaf_B0 n l (aA l) (i : Int) recs = _
  unfold qaf_B0 qbn
  rw [aC, decide_eq_true (by omega), yg, aE, hx, ya, sD n x.1 recs 4 (by omega) hn, ya, aH (by omega)]
  unfold qG
  cases bN recs 4 x.1 with
  | false => rfl
  | true =>
   rw [yw, ye, Cf n (x.2.1, x.2.2) recs, ya, ya]
   cases fK recs (x.2.1, x.2.2) <;> rfl
 ·show qaf_B0 n l (aA l) (l.length : Int) recs = _
  unfold qaf_B0
  rw [aC, decide_eq_false (by omega), ye]
theorem J7 (n : Nat) (l : List ByteArray) (hl : l.length ≤ 64) (hn : 100 ≤ n) : qf n l = some (l.any (fun s => decide (s.size > 32))) := by
 unfold qf qaa
 have h := bA (B := fun s => qaa_B0 n s.1 s.2.1 s.2.2) (xs := l) (mk := fun i => (l, (aA l, (i : Int)))) (p := fun s => decide (s.size > 32)) (found := fun i x => Sum.inl (i : Int)) (e := Sum.inr ())
  (fun i x hx => ?_) ?_ l.length 0 n (by omega) (by omega)
 ·rw [yl1] at h
  rcases h with ⟨h1, k, x, _, _, h2⟩ | ⟨h1, h2⟩
  ·rw [show qaa_W0 n (l, (aA l, 0)) = some (Sum.inl (k : Int)) from h2, h1]
   show some (decide ((k : Int) ≥ 0)) = _
   rw [decide_eq_true (by omega)]
  ·rw [show qaa_W0 n (l, (aA l, 0)) = some (Sum.inr ()) from h2, h1]
   rfl
 ·have hi := aN hx
  show qaa_B0 n l (aA l) (i : Int) = _
  unfold qaa_B0 qbm
  rw [aC, decide_eq_true (by omega), yg, aE, hx, ya, ya, aH (by omega)]
  have : decide (yQ x > 32) = decide (x.size > 32) := by
   unfold yQ
   by_cases h : x.size > 32
   ·rw [decide_eq_true h, decide_eq_true (by omega)]
   ·rw [decide_eq_false h, decide_eq_false (by omega)]
  rw [this]
  cases decide (x.size > 32) <;> rfl
 ·show qaa_B0 n l (aA l) (l.length : Int) = _
  unfold qaa_B0
  rw [aC, decide_eq_false (by omega), ye]
structure aW where
 recs : List (List cQ)
 funcs : List iT
 imps : List Mw
 ints : List Int
 texts : List ByteArray
def cN (m : aW) : Bool :=
 decide (m.recs.length ≤ 8) && (m.recs.all (bN m.recs.length 6) && (decide (1 ≤ m.funcs.length) && (decide (m.funcs.length ≤ 8) && (m.funcs.all (oF m.recs.length) &&
  (decide (m.imps.length ≤ 8) && (m.imps.all (qG m.recs.length) && (decide (m.ints.length ≤ 16) && (decide (m.texts.length ≤ 16) && m.texts.all fun s => decide (s.size ≤ 32)))))))))
theorem PA (l : List ByteArray) : (!l.any fun s => decide (s.size > 32)) = l.all fun s => decide (s.size ≤ 32) := by
 rw [← s1]
 congr 2
 funext s
 by_cases h : s.size > 32
 ·rw [decide_eq_true h, decide_eq_false (by omega)]; rfl
 ·rw [decide_eq_false h, decide_eq_true (by omega)]; rfl
theorem Ox (n : Nat) (m : aW) (hn : 100 ≤ n) : qbv n m.recs m.funcs m.imps m.ints m.texts = some (cN m) := by
 unfold qbv cN
 rw [aC m.recs, aC m.funcs, aC m.imps, aC m.ints, aC m.texts]
 by_cases h1 : m.recs.length ≤ 8
 ·rw [decide_eq_true (by omega : (m.recs.length : Int) ≤ 8), yg, decide_eq_true h1, Lq n m.recs _ (by omega) hn, ya, s1, yu]
  cases m.recs.all (bN m.recs.length 6) with
  | false => rfl
  | true =>
   rw [yg, yu]
   by_cases h2 : 1 ≤ m.funcs.length
   ·rw [decide_eq_true (by omega : (m.funcs.length : Int) ≥ 1), yg, decide_eq_true h2, yu]
    by_cases H : m.funcs.length ≤ 8
    ·rw [decide_eq_true (by omega : (m.funcs.length : Int) ≤ 8), yg, decide_eq_true H, Nh n m.funcs _ (by omega) hn, ya, s1, yu]
     cases m.funcs.all (oF m.recs.length) with
     | false => rfl
     | true =>
      rw [yg, yu]
      by_cases z : m.imps.length ≤ 8
      ·rw [decide_eq_true (by omega : (m.imps.length : Int) ≤ 8), yg, decide_eq_true z, Jp n m.imps _ (by omega) hn, ya, s1, yu]
       cases m.imps.all (qG m.recs.length) with
       | false => rfl
       | true =>
        rw [yg, yu]
        by_cases h : m.ints.length ≤ 16
        ·rw [decide_eq_true (by omega : (m.ints.length : Int) ≤ 16), yg, decide_eq_true h, yu]
         by_cases A : m.texts.length ≤ 16
         ·rw [decide_eq_true (by omega : (m.texts.length : Int) ≤ 16), yg, decide_eq_true A, yu, J7 n m.texts (by omega) hn, ya, PA]
         ·rw [decide_eq_false (by omega : ¬ (m.texts.length : Int) ≤ 16), ye, decide_eq_false A]; rfl
        ·rw [decide_eq_false (by omega : ¬ (m.ints.length : Int) ≤ 16), ye, decide_eq_false h]; rfl
      ·rw [decide_eq_false (by omega : ¬ (m.imps.length : Int) ≤ 8), ye, decide_eq_false z]; rfl
    ·rw [decide_eq_false (by omega : ¬ (m.funcs.length : Int) ≤ 8), ye, decide_eq_false H]; rfl
   ·rw [decide_eq_false (by omega : ¬ (m.funcs.length : Int) ≥ 1), ye, decide_eq_false h2]; rfl
 ·rw [decide_eq_false (by omega : ¬ (m.recs.length : Int) ≤ 8), ye, decide_eq_false h1]; rfl
end Sx
end
section
namespace Sx
open Go Go.Ab
def JM (l : List cQ) : Prop := ∀ t ∈ l, PM t
structure Fh (m : aW) : Prop where
 recs : ∀ l ∈ m.recs, JM l
 funcs : ∀ f ∈ m.funcs, JM f.1 ∧ PM (f.2.1, f.2.2.1) ∧ JM f.2.2.2.1
 imps : ∀ i ∈ m.imps, JM i.1 ∧ PM (i.2.1, i.2.2)
 ints : ∀ v ∈ m.ints, 0 ≤ v ∧ v ≤ 18446744073709551615
def cM (l : List cQ) : List Int := bJ l.length ++ l.flatMap kK
theorem eY (l : List cQ) : (cM l).length ≤ 11 + 22 * l.length := by
 have := aS l.length
 have := b8 kK 22 l fun t _ => fH t
 rw [cM, yi]; omega
def pK (f : iT) : List Int := cM f.1 ++ kK (f.2.1, f.2.2.1) ++ cM f.2.2.2.1 ++ bJ f.2.2.2.2.length ++ f.2.2.2.2.flatMap kP
def AG (i : Mw) : List Int := cM i.1 ++ kK (i.2.1, i.2.2)
def s4 (s : ByteArray) : List Int := bJ s.size ++ cE s
def cL {α : Type} (f : α → List Int) (l : List α) : List Int := bJ l.length ++ l.flatMap f
def Nb (l : List (List Int)) : List Int := cL (fun p => bJ p.length ++ p) l
def B3 (m : aW) : List Int := Nb [cL cM m.recs, cL pK m.funcs, cL AG m.imps, cL (fun v => s8 8 v.toNat) m.ints, cL s4 m.texts]
theorem rR (n k : Nat) (hk : k ≤ 4294967000) (hn : 20 ≤ n) : qk n (k : Int) = some (bJ k) := by
 unfold qk
 have := aS k
 rw [cW (by omega) (by omega), qeq_eq n k (by omega) hn, ya, aU (by omega), yg]
theorem AN (n k : Nat) (h : List Int) (hk : k ≤ 4294967000) (hm : h.length ≤ 4294900000) (hn : 20 ≤ n) : qb n (k : Int) h = some (h ++ bJ k) := by
 unfold qb
 have := aS k
 rw [cW (by omega) (by omega), qeq_eq n k (by omega) hn, ya, aU (by rw [yi]; omega), yg]
theorem sR (n : Nat) (l : List cQ) (z : List Int) (H : JM l) (hl : l.length ≤ 100) (hm : z.length ≤ 4294000000) (hn : 200 ≤ n) : qp n l z = some (z ++ cM l) := by
 unfold qp
 have hv := aS l.length
 rw [aC, AN n _ z (by omega) (by omega) (by omega), ya]
 have h := dY (B := fun s => qp_B0 n s.1.1 s.1.2.1 s.1.2.2 s.2) (xs := l) (mk := fun i a => ((l, ((l.length : Int), (i : Int))), a)) (f := kK) (e := id) (c := 22) (m0 := z ++ bJ l.length) (cap := 4294967296)
  (fun x _ => fH x) (by rw [yi]; omega) (fun i a x hx A ha => ?_) (fun a => ?_) (n := n) (by omega)
 ·rw [show qp_W0 n ((l, ((l.length : Int), 0)), z ++ bJ l.length) = _ from h, ya, id, yw1]
  rfl
 ·have hi := aN hx
  show qp_B0 n l (l.length : Int) (i : Int) a = _
  unfold qp_B0
  rw [decide_eq_true (by omega), yg, aE, hx, ya, qen_eq n x (H x A) (by omega), ya, aU (by rw [yi]; omega), yg, aH (by omega)]
 ·show qp_B0 n l (l.length : Int) (l.length : Int) a = _
  unfold qp_B0
  rw [decide_eq_false (by omega), ye]; rfl
theorem iB {recs z : Int} {l : List cQ} (h : bN recs z l = true) : (l.length : Int) ≤ z := by
 simp only [bN, yc, decide_eq_true_eq] at h
 exact h.1
theorem Kd (n : Nat) (m : aW) (H : Fh m) (hf : cN m = true) (hn : 200 ≤ n) : qau n m.recs m.funcs m.imps m.ints m.texts = some (cL cM m.recs) ∧ (cL cM m.recs).length ≤ 2000 := by
 simp only [cN, yc, decide_eq_true_eq, yx] at hf
 obtain ⟨h1, h2, _⟩ := hf
 have A : ∀ x ∈ m.recs, (cM x).length ≤ 143 := fun x hx => by
  have := eY x
  have := iB (h2 x hx)
  omega
 have hv := aS m.recs.length
 refine ⟨?_, by have := b8 cM 143 m.recs A; rw [cL, yi]; omega⟩
 unfold qau
 rw [aC, rR n _ (by omega) (by omega), ya]
 have h := dY (B := fun s => qau_B0 n s.1.1 s.1.2.1 s.1.2.2 s.2) (xs := m.recs) (mk := fun i a => ((m.recs, ((m.recs.length : Int), (i : Int))), a)) (f := cM) (e := id) (c := 143) (m0 := bJ m.recs.length) (cap := 4000)
  A (by omega) (fun i a x hx z ha => ?_) (fun a => ?_) (n := n) (by omega)
 ·rw [show qau_W0 n ((m.recs, ((m.recs.length : Int), 0)), bJ m.recs.length) = _ from h, ya]
  rfl
 ·have hi := aN hx
  show qau_B0 n m.recs (m.recs.length : Int) (i : Int) a = _
  unfold qau_B0
  have := iB (h2 x z)
  rw [decide_eq_true (by omega), yg, aE, hx, ya, sR n x a (H.recs x z) (by omega) (by omega) hn, ya, aH (by omega)]
 ·show qau_B0 n m.recs (m.recs.length : Int) (m.recs.length : Int) a = _
  unfold qau_B0
  rw [decide_eq_false (by omega), ye]; rfl
theorem qU {recs : Int} {f : iT} (h : oF recs f = true) : f.1.length ≤ 4 ∧ f.2.2.2.1.length ≤ 8 ∧ 1 ≤ f.2.2.2.2.length ∧ f.2.2.2.2.length ≤ 64 ∧ (pK f).length ≤ 1900 := by
 simp only [oF, yc, decide_eq_true_eq] at h
 obtain ⟨h1, _, z, H, A, _⟩ := h
 have h1 := iB h1
 have z := iB z
 have := eY f.1
 have := eY f.2.2.2.1
 have := fH (f.2.1, f.2.2.1)
 have := aS f.2.2.2.2.length
 have := b8 kP 23 f.2.2.2.2 fun i _ => rL i
 refine ⟨by omega, by omega, H, A, ?_⟩
 simp only [pK, yi]
 omega
theorem GQ (n : Nat) (m : aW) (ho : Fh m) (hf : cN m = true) (hn : 200 ≤ n) : qv n m.recs m.funcs m.imps m.ints m.texts = some (cL pK m.funcs) ∧ (cL pK m.funcs).length ≤ 20000 := by
 simp only [cN, yc, decide_eq_true_eq, yx] at hf
 obtain ⟨_, _, h0, h1, h2, _⟩ := hf
 have U : ∀ x ∈ m.funcs, (pK x).length ≤ 1900 := fun x hx => (qU (h2 x hx)).2.2.2.2
 have hv := aS m.funcs.length
 refine ⟨?_, by have := b8 pK 1900 m.funcs U; rw [cL, yi]; omega⟩
 unfold qv
 rw [aC, rR n _ (by omega) (by omega), ya]
 have h := dY (B := fun s => qv_B0 n s.1.1 s.1.2.1 s.1.2.2 s.2) (xs := m.funcs) (mk := fun i a => ((m.funcs, ((m.funcs.length : Int), (i : Int))), a)) (f := pK) (e := id) (c := 1900) (m0 := bJ m.funcs.length) (cap := 40000)
  U (by omega) (fun i a x hx A ha => ?_) (fun a => ?_) (n := n) (by omega)
 ·rw [show qv_W0 n ((m.funcs, ((m.funcs.length : Int), 0)), bJ m.funcs.length) = _ from h, ya]
  rfl
 ·have hi := aN hx
  obtain ⟨l1, Y, l3, l4, _⟩ := qU (h2 x A)
  obtain ⟨V, O, N⟩ := ho.funcs x A
  obtain ⟨J, k, K, H, z⟩ := x
  have t1 := eY J
  have t2 := eY H
  have t3 := fH (k, K)
  have t4 := aS z.length
  have t5 := b8 kP 23 z fun i _ => rL i
  simp only at l1 Y l3 l4 V O N
  show qv_B0 n m.funcs (m.funcs.length : Int) (i : Int) a = _
  unfold qv_B0
  rw [decide_eq_true (by omega), yg, aE, hx, ya]
  simp only []
  rw [sR n J a V (by omega) (by omega) hn, ya, qen_eq n (k, K) O (by omega), ya, aU (by simp only [yi]; omega), yg, sR n H _ N (by omega) (by simp only [yi]; omega) hn, ya,
   aC, AN n _ _ (by omega) (by simp only [yi]; omega) (by omega), ya]
  have M := dY (B := fun s => qv_B2 n s.1.1 s.1.2.1 s.1.2.2.1 s.1.2.2.2.1 s.1.2.2.2.2.1 s.1.2.2.2.2.2 s.2) (xs := z) (mk := fun j b => ((m.funcs, ((m.funcs.length : Int), ((i : Int), (z, ((z.length : Int), (j : Int)))))), b)) (f := kP)
   (e := fun b => ((m.funcs, ((m.funcs.length : Int), (i : Int))), b)) (c := 23) (m0 := a ++ cM J ++ kK (k, K) ++ cM H ++ bJ z.length) (cap := 4294967296) (fun y _ => rL y) (by simp only [yi]; omega) (fun j b y W Z hb => ?_) (fun b => ?_) (n := n) (by omega)
  ·rw [show qv_W2 n ((m.funcs, ((m.funcs.length : Int), ((i : Int), (z, ((z.length : Int), 0))))), a ++ cM J ++ kK (k, K) ++ cM H ++ bJ z.length) = _ from M, ya]
   simp only []
   rw [aH (by omega)]
   simp only [pK, yw1]
  ·have hj := aN W
   show qv_B2 n m.funcs (m.funcs.length : Int) (i : Int) z (z.length : Int) (j : Int) b = _
   unfold qv_B2
   rw [decide_eq_true (by omega), yg, aE, W, ya, qek_eq n y (by omega), ya, aU (by rw [yi]; omega), yg, aH (by omega)]
  ·show qv_B2 n m.funcs (m.funcs.length : Int) (i : Int) z (z.length : Int) (z.length : Int) b = _
   unfold qv_B2
   rw [decide_eq_false (by omega), ye]
 ·show qv_B0 n m.funcs (m.funcs.length : Int) (m.funcs.length : Int) a = _
  unfold qv_B0
  rw [decide_eq_false (by omega), ye]; rfl
theorem CQ {recs : Int} {f : Mw} (h : qG recs f = true) : f.1.length ≤ 4 ∧ (AG f).length ≤ 130 := by
 simp only [qG, yc] at h
 have h1 := iB h.1
 have := eY f.1
 have := fH (f.2.1, f.2.2)
 refine ⟨by omega, ?_⟩
 rw [AG, yi]; omega
theorem JI (n : Nat) (m : aW) (O : Fh m) (hf : cN m = true) (hn : 200 ≤ n) : qat n m.recs m.funcs m.imps m.ints m.texts = some (cL AG m.imps) ∧ (cL AG m.imps).length ≤ 2000 := by
 simp only [cN, yc, decide_eq_true_eq, yx] at hf
 obtain ⟨_, _, _, _, _, h1, h2, _⟩ := hf
 have H : ∀ x ∈ m.imps, (AG x).length ≤ 130 := fun x hx => (CQ (h2 x hx)).2
 have hv := aS m.imps.length
 refine ⟨?_, by have := b8 AG 130 m.imps H; rw [cL, yi]; omega⟩
 unfold qat
 rw [aC, rR n _ (by omega) (by omega), ya]
 have h := dY (B := fun s => qat_B0 n s.1.1 s.1.2.1 s.1.2.2 s.2) (xs := m.imps) (mk := fun i a => ((m.imps, ((m.imps.length : Int), (i : Int))), a)) (f := AG) (e := id) (c := 130) (m0 := bJ m.imps.length) (cap := 40000)
  H (by omega) (fun i a x hx z ha => ?_) (fun a => ?_) (n := n) (by omega)
 ·rw [show qat_W0 n ((m.imps, ((m.imps.length : Int), 0)), bJ m.imps.length) = _ from h, ya]
  rfl
 ·have hi := aN hx
  obtain ⟨N, _⟩ := CQ (h2 x z)
  obtain ⟨K, A⟩ := O.imps x z
  obtain ⟨J, k, M⟩ := x
  have t1 := eY J
  have t3 := fH (k, M)
  simp only at N K A
  show qat_B0 n m.imps (m.imps.length : Int) (i : Int) a = _
  unfold qat_B0
  rw [decide_eq_true (by omega), yg, aE, hx, ya]
  simp only []
  rw [sR n J a K (by omega) (by omega) hn, ya, qen_eq n (k, M) A (by omega), ya, aU (by simp only [yi]; omega), yg, aH (by omega)]
  simp only [AG, yw1]
 ·show qat_B0 n m.imps (m.imps.length : Int) (m.imps.length : Int) a = _
  unfold qat_B0
  rw [decide_eq_false (by omega), ye]; rfl
theorem O0 (n : Nat) (v : Nat) (hv : v < 18446744073709551616) (hn : 20 ≤ n) : qef n (v : Int) 8 = some (s8 8 v) := by
 have h := dY (B := fun s => qef_B0 n s.1.1 s.1.2.1 s.1.2.2 s.2) (xs := List.range 8) (mk := fun i a => (((v : Int), ((8 : Int), (i : Int))), a)) (f := fun j => [((v / 256 ^ j % 256 : Nat) : Int)]) (e := id) (c := 1) (m0 := []) (cap := 100)
  (fun x _ => by simp) (by simp) (fun i a x hx z H => ?_) (fun a => ?_) (n := n) (by simp; omega)
 ·unfold qef
  rw [show qef_W0 n (((v : Int), ((Ov (It 8 0) 8), 0)), []) = _ from h, ya]
  have e : ∀ l : List Nat, l.flatMap (fun j => [((v / 256 ^ j % 256 : Nat) : Int)]) = l.map fun j => ((v / 256 ^ j % 256 : Nat) : Int) := by
   intro l
   induction l with
   | nil => rfl
   | cons x l K => rw [List.flatMap_cons, K]; rfl
  rw [e]; rfl
 ·have A := aN hx
  rw [yj2] at A
  rw [List.getElem?_range A] at hx
  obtain rfl := yb hx
  show qef_B0 n (v : Int) 8 (i : Int) a = _
  unfold qef_B0
  have J : aY .u8 (LH .u64 (v : Int) (LP .i64 8 (i : Int))) = ((v / 256 ^ i % 256 : Nat) : Int) := by
   rw [HO (by omega) (by omega), BF]
   show ((v : Int).fdiv (2 ^ (min (8 * (i : Int)).toNat 64))) % 256 = _
   rw [show min (8 * (i : Int)).toNat 64 = 8 * i by omega, show ((2 : Int) ^ (8 * i)) = ((256 ^ i : Nat) : Int) by rw [show (256 : Nat) = 2 ^ 8 from rfl, ← Nat.pow_mul]; simp,
    Int.fdiv_eq_ediv_of_nonneg _ (Int.natCast_nonneg _), ← Int.natCast_ediv]
   omega
  rw [decide_eq_true (by omega), yg, J, HO (by omega) (by omega), decide_eq_true (by omega), yg, aU (by simp at H ⊢; omega), yg, aH (by omega)]
 ·show qef_B0 n (v : Int) 8 8 a = _
  rfl
theorem Jm (n : Nat) (m : aW) (K : Fh m) (hf : cN m = true) (hn : 200 ≤ n) : qas n m.recs m.funcs m.imps m.ints m.texts = some (cL (fun v => s8 8 v.toNat) m.ints) ∧ (cL (fun v : Int => s8 8 v.toNat) m.ints).length ≤ 2000 := by
 simp only [cN, yc, decide_eq_true_eq, yx] at hf
 obtain ⟨_, _, _, _, _, _, _, h1, _⟩ := hf
 have A : ∀ x ∈ m.ints, (s8 8 x.toNat).length ≤ 8 := fun x hx => by rw [lZ]; omega
 have hv := aS m.ints.length
 refine ⟨?_, by have := b8 (fun v : Int => s8 8 v.toNat) 8 m.ints A; rw [cL, yi]; omega⟩
 unfold qas
 rw [aC, rR n _ (by omega) (by omega), ya]
 have h := dY (B := fun s => qas_B0 n s.1.1 s.1.2.1 s.1.2.2 s.2) (xs := m.ints) (mk := fun i a => ((m.ints, ((m.ints.length : Int), (i : Int))), a)) (f := fun v => s8 8 v.toNat) (e := id) (c := 8) (m0 := bJ m.ints.length) (cap := 40000)
  A (by omega) (fun i a x hx z H => ?_) (fun a => ?_) (n := n) (by omega)
 ·rw [show qas_W0 n ((m.ints, ((m.ints.length : Int), 0)), bJ m.ints.length) = _ from h, ya]
  rfl
 ·have hi := aN hx
  have J := K.ints x z
  obtain ⟨u, rfl⟩ : ∃ u : Nat, x = (u : Int) := ⟨x.toNat, by omega⟩
  show qas_B0 n m.ints (m.ints.length : Int) (i : Int) a = _
  unfold qas_B0
  rw [lZ] at H
  rw [decide_eq_true (by omega), yg, aE, hx, ya, O0 n u (by omega) (by omega), ya, aU (by rw [yi, lZ]; omega), yg, aH (by omega), yb1]
 ·show qas_B0 n m.ints (m.ints.length : Int) (m.ints.length : Int) a = _
  unfold qas_B0
  rw [decide_eq_false (by omega), ye]; rfl
theorem j7 (s : ByteArray) : (cE s).length = s.size := by
 unfold cE
 rw [ye2, yv1]; rfl
theorem MC (n : Nat) (m : aW) (hf : cN m = true) (hn : 200 ≤ n) : qbo n m.recs m.funcs m.imps m.ints m.texts = some (cL s4 m.texts) ∧ (cL s4 m.texts).length ≤ 2000 := by
 simp only [cN, yc, decide_eq_true_eq, yx] at hf
 obtain ⟨_, _, _, _, _, _, _, _, h1, h2⟩ := hf
 have A : ∀ x ∈ m.texts, (s4 x).length ≤ 43 := fun x hx => by
  have := aS x.size
  have := h2 x hx
  rw [s4, yi, j7]; omega
 have hv := aS m.texts.length
 refine ⟨?_, by have := b8 s4 43 m.texts A; rw [cL, yi]; omega⟩
 unfold qbo
 rw [aC, rR n _ (by omega) (by omega), ya]
 have h := dY (B := fun s => qbo_B0 n s.1.1 s.1.2.1 s.1.2.2 s.2) (xs := m.texts) (mk := fun i a => ((m.texts, ((m.texts.length : Int), (i : Int))), a)) (f := s4) (e := id) (c := 43) (m0 := bJ m.texts.length) (cap := 40000)
  A (by omega) (fun i a x hx z ha => ?_) (fun a => ?_) (n := n) (by omega)
 ·rw [show qbo_W0 n ((m.texts, ((m.texts.length : Int), 0)), bJ m.texts.length) = _ from h, ya]
  rfl
 ·have hi := aN hx
  have hs := h2 x z
  have H := aS x.size
  show qbo_B0 n m.texts (m.texts.length : Int) (i : Int) a = _
  unfold qbo_B0
  rw [decide_eq_true (by omega), yg, aE, hx, ya, show yQ x = ((x.size : Nat) : Int) from rfl, AN n _ a (by omega) (by omega) (by omega), ya, aU (by simp only [yi, j7]; omega), yg, aH (by omega), yw1]
  rfl
 ·show qbo_B0 n m.texts (m.texts.length : Int) (m.texts.length : Int) a = _
  unfold qbo_B0
  rw [decide_eq_false (by omega), ye]; rfl
theorem OA (n : Nat) (l : List (List Int)) (hl : l.length ≤ 100) (H : ∀ x ∈ l, x.length ≤ 1000000) (hn : 200 ≤ n) : qdz n l = some (Nb l) := by
 have hv := aS l.length
 have A : ∀ x ∈ l, (bJ x.length ++ x).length ≤ 1000011 := fun x hx => by
  have := aS x.length
  have := H x hx
  rw [yi]; omega
 unfold qdz
 rw [aC, cW (by omega) (by omega), qeq_eq n l.length (by omega) (by omega), ya]
 have h := dY (B := fun s => qdz_B0 n s.1.1 s.1.2.1 s.1.2.2 s.2) (xs := l) (mk := fun i a => ((l, ((l.length : Int), (i : Int))), a)) (f := fun p => bJ p.length ++ p) (e := id) (c := 1000011) (m0 := bJ l.length) (cap := 200000000)
  A (by omega) (fun i a x hx z J => ?_) (fun a => ?_) (n := n) (by omega)
 ·rw [show qdz_W0 n ((l, ((l.length : Int), 0)), bJ l.length) = _ from h, ya]
  rfl
 ·have hi := aN hx
  have K := aS x.length
  have M := H x z
  rw [yi] at J
  show qdz_B0 n l (l.length : Int) (i : Int) a = _
  unfold qdz_B0
  rw [decide_eq_true (by omega), yg, aE, hx, ya, aC, cW (by omega) (by omega), qeq_eq n x.length (by omega) (by omega), ya, aU (by rw [yi]; omega), yg, aU (by simp only [yi]; omega), yg, aH (by omega), yw1]
 ·show qdz_B0 n l (l.length : Int) (l.length : Int) a = _
  unfold qdz_B0
  rw [decide_eq_false (by omega), ye]; rfl
theorem Mg (n : Nat) (m : aW) (h : Fh m) (hn : 200 ≤ n) : qba n m.recs m.funcs m.imps m.ints m.texts = some (if cN m = true then (B3 m, 0) else ([], 2)) := by
 unfold qba
 rw [Ox n m (by omega), ya]
 cases hf : cN m with
 | false => rfl
 | true =>
  obtain ⟨J, l1⟩ := Kd n m h hf hn
  obtain ⟨H, l2⟩ := GQ n m h hf hn
  obtain ⟨K, l3⟩ := JI n m h hf hn
  obtain ⟨z, l4⟩ := Jm n m h hf hn
  obtain ⟨A, l5⟩ := MC n m hf hn
  rw [yw, ye, J, ya, H, ya, K, ya, z, ya, A, ya, OA n _ (by simp) ?_ hn, ya, if_pos rfl]
  ·rfl
  ·intro x hx
   simp only [yq1, List.not_mem_nil, or_false] at hx
   rcases hx with rfl | rfl | rfl | rfl | rfl <;> omega
end Sx
end
section
namespace Sx
open Go Go.Ab
def lR (recs most : Int) (l : List cQ) : List Int × Bool := if l.all (fK recs) = true then (cM l, decide ((l.length : Int) ≤ most)) else ([], false)
theorem oK (recs h : Int) (l : List cQ) : (lR recs h l).2 = bN recs h l := by
 unfold lR bN
 cases l.all (fK recs) <;> simp
theorem lG {recs z : Int} {l : List cQ} (h : bN recs z l = true) : (lR recs z l).1 = cM l := by
 simp only [bN, yc] at h
 unfold lR
 rw [if_pos h.2]
theorem o9 (recs h : Int) (l : List cQ) : (lR recs h l).1.length ≤ 11 + 22 * l.length := by
 unfold lR
 split
 ·exact eY l
 ·simp
theorem m6 (n : Nat) (l : List cQ) (recs z : Int) (U : JM l) (hl : l.length ≤ 5000) (hn : 6000 ≤ n) : qaw n l recs z = some (lR recs z l) := by
 unfold qaw
 have hv := aS l.length
 rw [aC, cW (by omega) (by omega), dS n l.length (by omega) (by omega), ya]
 have h := dL (B := fun s => qaw_B0 n s.1.1 s.1.2.1 s.1.2.2.1 s.1.2.2.2 s.2) (xs := l) (mk := fun i a => ((l, (recs, (z, (i : Int)))), a))
  (I := fun i a => a = bJ l.length ++ (l.take i).flatMap kK ∧ (l.take i).all (fK recs) = true)
  (Q := fun y => (l.all (fK recs) = true ∧ y = Sum.inr ((l, z), cM l)) ∨ (l.all (fK recs) = false ∧ ∃ m, y = Sum.inl (([], false), m)))
  (fun i a x hx hI => ?_) (fun a hI => ?_) l.length 0 n (bJ l.length) (by omega) ⟨by simp, rfl⟩ (by omega)
 ·obtain ⟨y, h1, h2⟩ := h
  rw [show qaw_W0 n ((l, (recs, (z, 0))), bJ l.length) = some y from h1, ya]
  unfold lR
  rcases h2 with ⟨K, rfl⟩ | ⟨K, m, rfl⟩
  ·rw [if_pos K]; rfl
  ·rw [if_neg (by rw [K]; simp)]
 ·have hi := aN hx
  obtain ⟨rfl, J⟩ := hI
  have N := b8 kK 22 (l.take i) fun t _ => fH t
  have M := fH x
  have O : (l.take i).length = i := by rw [yl2]; omega
  have H : qaw_B0 n l recs z (i : Int) (bJ l.length ++ (l.take i).flatMap kK) = (if fK recs x = true then some (Sum.inl ((l, (recs, (z, ((i + 1 : Nat) : Int)))), bJ l.length ++ (l.take i).flatMap kK ++ kK x)) else some (Sum.inr (Sum.inl (([], false), bJ l.length ++ (l.take i).flatMap kK)))) := by
   unfold qaw_B0
   rw [aC, decide_eq_true (by omega), yg, aE, hx, ya, wV, ya, ya, wK n x (U x (yj hx)) (by omega), ya, aU (by simp only [yi]; omega), aH (by omega)]
   cases fK recs x <;> rfl
  by_cases A : fK recs x = true
  ·rw [if_pos A] at H
   exact .inl ⟨_, H, by rw [dG hx, yw1], by rw [fM hx, J, A]; rfl⟩
  ·rw [if_neg A] at H
   exact .inr ⟨_, H, .inr ⟨Aa hx (by simpa using A), _, rfl⟩⟩
 ·obtain ⟨rfl, J⟩ := hI
  rw [yf2] at J ⊢
  refine ⟨Sum.inr ((l, z), cM l), ?_, .inl ⟨J, rfl⟩⟩
  show qaw_B0 n l recs z (l.length : Int) _ = _
  unfold qaw_B0
  rw [aC, decide_eq_false (by omega), ye]; rfl
structure oY (m : aW) : Prop where
 n1 : m.recs.length ≤ 200
 n2 : m.funcs.length ≤ 200
 n3 : m.imps.length ≤ 200
 n4 : m.ints.length ≤ 200
 n5 : m.texts.length ≤ 200
 recs : ∀ l ∈ m.recs, l.length ≤ 3000
 funcs : ∀ f ∈ m.funcs, f.1.length ≤ 3000 ∧ f.2.2.2.1.length ≤ 3000 ∧ f.2.2.2.2.length ≤ 3000
 imps : ∀ i ∈ m.imps, i.1.length ≤ 3000
 texts : ∀ s ∈ m.texts, s.size ≤ 3000
abbrev aJ (m : aW) : List (List cQ) × List iT × List Mw × List Int × List ByteArray := (m.recs, (m.funcs, (m.imps, (m.ints, m.texts))))
theorem Ou (n : Nat) (m : aW) (K : Fh m) (hL : oY m) (h8 : m.recs.length ≤ 8) (hn : 6000 ≤ n) : ∃ b, qbc_W0 n (((m.recs.length : Int), (true, 0)), (aJ m, bJ m.recs.length)) = some (((m.recs.length : Int), m.recs.all (bN m.recs.length 6)), (aJ m, b)) ∧
  (m.recs.all (bN m.recs.length 6) = true → b = cL cM m.recs) := by
 have hv := aS m.recs.length
 have h := dL (B := fun s => qbc_B0 n s.1.1 s.1.2.1 s.1.2.2 s.2.1.1 s.2.1.2.1 s.2.1.2.2.1 s.2.1.2.2.2.1 s.2.1.2.2.2.2 s.2.2) (xs := m.recs) (mk := fun i (a : Bool × List Int) => (((m.recs.length : Int), (a.1, (i : Int))), (aJ m, a.2)))
  (I := fun i a => a.1 = (m.recs.take i).all (bN m.recs.length 6) ∧ a.2.length ≤ 11 + 70000 * i ∧ (a.1 = true → a.2 = bJ m.recs.length ++ (m.recs.take i).flatMap cM))
  (Q := fun y => ∃ b, y = (((m.recs.length : Int), m.recs.all (bN m.recs.length 6)), (aJ m, b)) ∧ (m.recs.all (bN m.recs.length 6) = true → b = cL cM m.recs))
  (fun i a x hx hI => ?_) (fun a hI => ?_) m.recs.length 0 n (true, bJ m.recs.length) (by omega) ⟨rfl, by simp; omega, fun _ => by simp⟩ (by omega)
 ·obtain ⟨y, h1, b, rfl, h2⟩ := h
  exact ⟨b, h1, h2⟩
 ·have hi := aN hx
  have hm := yj hx
  have H := hL.recs x hm
  have J := o9 m.recs.length 6 x
  obtain ⟨h1, h2, A⟩ := hI
  refine .inl ⟨(a.1 && (lR m.recs.length 6 x).2, a.2 ++ (lR m.recs.length 6 x).1), ?_, ?_, ?_, ?_⟩
  ·show qbc_B0 n (m.recs.length : Int) a.1 (i : Int) m.recs m.funcs m.imps m.ints m.texts a.2 = _
   unfold qbc_B0
   rw [decide_eq_true (by omega), yg, aE, hx, ya, m6 n x _ _ (K.recs x hm) (by omega) hn, ya, aU (by rw [yi]; omega), yg, aH (by omega)]
   cases a.1 <;> rfl
  ·rw [h1, fM hx, oK]
  ·simp only [yi]; omega
  ·intro z
   simp only [yc, oK] at z
   simp only []
   rw [A z.1, lG z.2, dG hx, yw1]
 ·obtain ⟨h1, h2, A⟩ := hI
  rw [yf2] at h1 A
  refine ⟨_, ?_, a.2, rfl, fun z => A (h1.trans z)⟩
  show qbc_B0 n (m.recs.length : Int) a.1 (m.recs.length : Int) m.recs m.funcs m.imps m.ints m.texts a.2 = _
  unfold qbc_B0
  rw [decide_eq_false (by omega), ye, h1]
theorem OP (n : Nat) (m : aW) (J : Int) (j : Int) (H A : List Int) (f : iT) (hc : f.2.2.2.2.length ≤ 64) (N : A.length ≤ 4000000) (hn : 6000 ≤ n) :
  ∃ y, qbc_W4 n ((J, (true, (j, 0))), (aJ m, (H, (A, f)))) = some y ∧
   ((f.2.2.2.2.any jB = false ∧ y = Sum.inr ((J, (true, j)), (aJ m, (H, (A ++ f.2.2.2.2.flatMap kP, f))))) ∨ (f.2.2.2.2.any jB = true ∧ ∃ z, y = Sum.inl (([], false), z))) := by
 refine dL (B := fun s => qbc_B4 n s.1.1 s.1.2.1 s.1.2.2.1 s.1.2.2.2 s.2.1.1 s.2.1.2.1 s.2.1.2.2.1 s.2.1.2.2.2.1 s.2.1.2.2.2.2 s.2.2.1 s.2.2.2.1 s.2.2.2.2.1 s.2.2.2.2.2.1 s.2.2.2.2.2.2.1 s.2.2.2.2.2.2.2.1 s.2.2.2.2.2.2.2.2) (xs := f.2.2.2.2)
  (mk := fun i (a : List Int) => ((J, (true, (j, (i : Int)))), (aJ m, (H, (a, f))))) (I := fun i a => a = A ++ (f.2.2.2.2.take i).flatMap kP ∧ (f.2.2.2.2.take i).any jB = false) (fun i a x hx hI => ?_) (fun a hI => ?_) f.2.2.2.2.length 0 n A (by omega) ⟨by simp, rfl⟩ (by omega)
 ·have hi := aN hx
  obtain ⟨rfl, M⟩ := hI
  have V := b8 kP 23 (f.2.2.2.2.take i) fun t _ => rL t
  have U := rL x
  have W : (f.2.2.2.2.take i).length = i := by rw [yl2]; omega
  have O : (((kP x).length : Int) == 0) = jB x := by
   rw [← I9]
   cases (kP x).length <;> rfl
  have K : qbc_B4 n J true j (i : Int) m.recs m.funcs m.imps m.ints m.texts H (A ++ (f.2.2.2.2.take i).flatMap kP) f.1 f.2.1 f.2.2.1 f.2.2.2.1 f.2.2.2.2 =
    (if jB x = true then some (Sum.inr (Sum.inl (([], false), (aJ m, (H, (A ++ (f.2.2.2.2.take i).flatMap kP, f)))))) else some (Sum.inl ((J, (true, (j, ((i + 1 : Nat) : Int)))), (aJ m, (H, (A ++ (f.2.2.2.2.take i).flatMap kP ++ kP x, f)))))) := by
   unfold qbc_B4
   rw [aC, decide_eq_true (by omega), yg, aE, hx, ya, HW n x (by omega), ya, aC, O, aU (by simp only [yi]; omega), aH (by omega)]
   cases jB x <;> rfl
  by_cases h : jB x = true
  ·rw [if_pos h] at K
   exact .inr ⟨_, K, .inr ⟨List.any_eq_true.2 ⟨x, yj hx, h⟩, _, rfl⟩⟩
  ·rw [if_neg h] at K
   refine .inl ⟨_, K, by rw [dG hx, yw1], ?_⟩
   rw [yv2, hx, List.any_append, M]
   simpa using h
 ·obtain ⟨rfl, M⟩ := hI
  rw [yf2] at M ⊢
  refine ⟨_, ?_, .inl ⟨M, rfl⟩⟩
  show qbc_B4 n J true j (f.2.2.2.2.length : Int) m.recs m.funcs m.imps m.ints m.texts H (A ++ f.2.2.2.2.flatMap kP) f.1 f.2.1 f.2.2.1 f.2.2.2.1 f.2.2.2.2 = _
  unfold qbc_B4
  rw [aC, decide_eq_false (by omega), ye]
theorem Nz (n : Nat) (m : aW) (ho : Fh m) (hL : oY m) (h1 : 1 ≤ m.funcs.length) (h8 : m.funcs.length ≤ 8) (ok : Bool) (V : List Int) (hn : 6000 ≤ n) :
  ∃ y, qbc_W2 n (((m.recs.length : Int), (ok, 0)), (aJ m, (V, bJ m.funcs.length))) = some y ∧
   (((ok && m.funcs.all (oF m.recs.length)) = true ∧ y = Sum.inr (((m.recs.length : Int), true), (aJ m, (V, cL pK m.funcs)))) ∨ ((ok && m.funcs.all (oF m.recs.length)) = false ∧ ∃ z, y = Sum.inl (([], false), z))) := by
 have hv := aS m.funcs.length
 refine dL (B := fun s => qbc_B2 n s.1.1 s.1.2.1 s.1.2.2 s.2.1.1 s.2.1.2.1 s.2.1.2.2.1 s.2.1.2.2.2.1 s.2.1.2.2.2.2 s.2.2.1 s.2.2.2) (xs := m.funcs) (mk := fun i (a : Bool × List Int) => (((m.recs.length : Int), (a.1, (i : Int))), (aJ m, (V, a.2))))
  (I := fun i a => (i = 0 → a.1 = ok) ∧ (0 < i → a.1 = true ∧ ok = true) ∧ (m.funcs.take i).all (oF m.recs.length) = true ∧ a.2 = bJ m.funcs.length ++ (m.funcs.take i).flatMap pK)
  (fun i a x hx hI => ?_) (fun a hI => ?_) m.funcs.length 0 n (ok, bJ m.funcs.length) (by omega) ⟨fun _ => rfl, fun h => by omega, rfl, by simp⟩ (by omega)
 ·have hi := aN hx
  have hm := yj hx
  obtain ⟨l1, l2, l3⟩ := hL.funcs x hm
  obtain ⟨o1, o2, o3⟩ := ho.funcs x hm
  obtain ⟨ia, ib, hg, H⟩ := hI
  have htl : (m.funcs.take i).length = i := by rw [yl2]; omega
  have hfl := b8 pK 1900 (m.funcs.take i) fun t ht => (qU (yx.1 hg t ht)).2.2.2.2
  have hal : a.2.length ≤ 20000 := by rw [H, yi]; omega
  have U : a.1 = ok := by
   rcases Nat.eq_zero_or_pos i with h | h
   ·exact ia h
   ·obtain ⟨e1, e2⟩ := ib h; rw [e1, e2]
  have exit : (a.1 && oF m.recs.length x) = false → (ok && m.funcs.all (oF m.recs.length)) = false := by
   intro h
   rw [U] at h
   cases ok with
   | false => rfl
   | true =>
    have h : oF m.recs.length x = false := h
    rw [yu]; exact Aa hx h
  obtain ⟨M, k, N, O, J⟩ := x
  simp only at l1 l2 l3 o1 o2 o3
  have t1 := o9 m.recs.length 4 M
  have t2 := o9 m.recs.length (8 - (M.length : Int)) O
  have t3 := fH (k, N)
  have t4 := aS J.length
  have A : ∀ s, qbc_B2 n (m.recs.length : Int) a.1 (i : Int) m.recs m.funcs m.imps m.ints m.texts V a.2 = s → (fun s => qbc_B2 n s.1.1 s.1.2.1 s.1.2.2 s.2.1.1 s.2.1.2.1 s.2.1.2.2.1 s.2.1.2.2.2.1 s.2.1.2.2.2.2 s.2.2.1 s.2.2.2) (((m.recs.length : Int), (a.1, (i : Int))), (aJ m, (V, a.2))) = s := fun s h => h
  unfold qbc_B2 at A
  rw [aC, decide_eq_true (by omega), yg, aE, hx, ya] at A
  simp only [] at A
  rw [m6 n M _ _ o1 (by omega) hn, ya, aC, bV (by omega) (by omega), m6 n O _ _ o3 (by omega) hn, ya, oK, oK, wV n (k, N), ya, aC] at A
  have W : oF m.recs.length (M, k, N, O, J) = (bN m.recs.length 4 M && (fK m.recs.length (k, N) && (bN m.recs.length (8 - (M.length : Int)) O && (decide (1 ≤ J.length) && (decide (J.length ≤ 64) && !J.any jB))))) := rfl
  rw [W] at exit
  cases Z : a.1 with
  | false =>
   rw [Z] at A exit
   exact .inr ⟨_, A _ rfl, .inr ⟨exit rfl, _, rfl⟩⟩
  | true =>
   rw [Z] at A exit
   cases g1 : bN m.recs.length 4 M with
   | false =>
    rw [g1] at A exit
    exact .inr ⟨_, A _ rfl, .inr ⟨exit rfl, _, rfl⟩⟩
   | true =>
    rw [g1] at A exit
    cases g2 : bN m.recs.length (8 - (M.length : Int)) O with
    | false =>
     rw [g2] at A exit
     exact .inr ⟨_, A _ rfl, .inr ⟨exit (by simp), _, rfl⟩⟩
    | true =>
     rw [g2] at A exit
     cases g3 : fK m.recs.length (k, N) with
     | false =>
      rw [g3] at A exit
      exact .inr ⟨_, A _ rfl, .inr ⟨exit (by simp), _, rfl⟩⟩
     | true =>
      rw [g3] at A exit
      by_cases c1 : 1 ≤ J.length
      ·rw [decide_eq_true (by omega : (J.length : Int) ≥ 1)] at A
       rw [decide_eq_true c1] at exit
       by_cases c2 : J.length ≤ 64
       ·rw [decide_eq_true (by omega : (J.length : Int) ≤ 64)] at A
        rw [decide_eq_true c2] at exit
        rw [lG g1] at A t1
        rw [lG g2] at A t2
        simp only [yg, yw, ye] at A
        rw [aU (by simp only [yi]; omega), yg, wK n (k, N) o2 (by omega), ya, aU (by simp only [yi]; omega), yg, aU (by simp only [yi]; omega), yg, cW (by omega) (by omega), dS n J.length (by omega) (by omega),
         ya, aU (by simp only [yi]; omega), yg] at A
        obtain ⟨y, hy, Y⟩ := OP n m (m.recs.length : Int) (i : Int) V ((((a.2 ++ cM M) ++ kK (k, N)) ++ cM O) ++ bJ J.length) (M, k, N, O, J) c2 (by simp only [yi]; omega) hn
        rw [show qbc_W4 n (((m.recs.length : Int), (true, ((i : Int), 0))), ((m.recs, (m.funcs, (m.imps, (m.ints, m.texts)))), (V, (((((a.2 ++ cM M) ++ kK (k, N)) ++ cM O) ++ bJ J.length), (M, (k, (N, (O, J)))))))) = some y from hy, ya] at A
        rcases Y with ⟨K, rfl⟩ | ⟨K, z, rfl⟩
        ·simp only [] at A
         rw [aH (by omega)] at A
         refine .inl ⟨(true, ((((a.2 ++ cM M) ++ kK (k, N)) ++ cM O) ++ bJ J.length) ++ J.flatMap kP), A _ rfl, fun h => by omega, fun _ => ⟨rfl, U.symm.trans Z⟩, ?_, ?_⟩
         ·rw [fM hx, hg, W, g1, g2, g3, decide_eq_true c1, decide_eq_true c2, K]; rfl
         ·rw [dG hx, H]
          simp only [pK, yw1]
        ·exact .inr ⟨_, A _ rfl, .inr ⟨exit (by simp only [] at K; rw [K]; rfl), _, rfl⟩⟩
       ·rw [decide_eq_false (by omega : ¬ (J.length : Int) ≤ 64)] at A
        rw [decide_eq_false c2] at exit
        exact .inr ⟨_, A _ rfl, .inr ⟨exit (by simp), _, rfl⟩⟩
      ·rw [decide_eq_false (by omega : ¬ (J.length : Int) ≥ 1)] at A
       rw [decide_eq_false c1] at exit
       exact .inr ⟨_, A _ rfl, .inr ⟨exit (by simp), _, rfl⟩⟩
 ·obtain ⟨ia, ib, hg, H⟩ := hI
  rw [yf2] at hg H
  obtain ⟨Z, U⟩ := ib (by omega)
  refine ⟨_, ?_, .inl ⟨by rw [U, hg]; rfl, rfl⟩⟩
  show qbc_B2 n (m.recs.length : Int) a.1 (m.funcs.length : Int) m.recs m.funcs m.imps m.ints m.texts V a.2 = _
  unfold qbc_B2
  rw [aC, decide_eq_false (by omega), ye, Z, H]
  rfl
end Sx
end
section
namespace Sx
open Go Go.Ab
theorem OM (n : Nat) (m : aW) (Y : Fh m) (hL : oY m) (h8 : m.imps.length ≤ 8) (J K : List Int) (hn : 6000 ≤ n) :
  ∃ b, qbc_W6 n (((m.recs.length : Int), (true, 0)), (aJ m, (J, (K, bJ m.imps.length)))) = some (m.imps.all (qG m.recs.length), (aJ m, (J, (K, b)))) ∧ b.length ≤ 2000000 ∧ (m.imps.all (qG m.recs.length) = true → b = cL AG m.imps) := by
 have hv := aS m.imps.length
 have h := dL (B := fun s => qbc_B6 n s.1.1 s.1.2.1 s.1.2.2 s.2.1.1 s.2.1.2.1 s.2.1.2.2.1 s.2.1.2.2.2.1 s.2.1.2.2.2.2 s.2.2.1 s.2.2.2.1 s.2.2.2.2) (xs := m.imps) (mk := fun i (a : Bool × List Int) => (((m.recs.length : Int), (a.1, (i : Int))), (aJ m, (J, (K, a.2)))))
  (I := fun i a => a.1 = (m.imps.take i).all (qG m.recs.length) ∧ a.2.length ≤ 11 + 70000 * i ∧ (a.1 = true → a.2 = bJ m.imps.length ++ (m.imps.take i).flatMap AG))
  (Q := fun y => ∃ b, y = (m.imps.all (qG m.recs.length), (aJ m, (J, (K, b)))) ∧ b.length ≤ 2000000 ∧ (m.imps.all (qG m.recs.length) = true → b = cL AG m.imps))
  (fun i a x hx hI => ?_) (fun a hI => ?_) m.imps.length 0 n (true, bJ m.imps.length) (by omega) ⟨rfl, by simp; omega, fun _ => by simp⟩ (by omega)
 ·obtain ⟨y, h1, b, rfl, h2⟩ := h
  exact ⟨b, h1, h2⟩
 ·have hi := aN hx
  have hm := yj hx
  have O := hL.imps x hm
  obtain ⟨V, U⟩ := Y.imps x hm
  obtain ⟨A, k, H⟩ := x
  simp only at O V U
  have W := o9 m.recs.length 4 A
  have t3 := fH (k, H)
  obtain ⟨h1, h2, N⟩ := hI
  have z : qG m.recs.length (A, k, H) = (bN m.recs.length 4 A && fK m.recs.length (k, H)) := rfl
  refine .inl ⟨(a.1 && qG m.recs.length (A, k, H), a.2 ++ (lR m.recs.length 4 A).1 ++ kK (k, H)), ?_, ?_, ?_, ?_⟩
  ·show qbc_B6 n (m.recs.length : Int) a.1 (i : Int) m.recs m.funcs m.imps m.ints m.texts J K a.2 = _
   unfold qbc_B6
   rw [aC, decide_eq_true (by omega), yg, aE, hx, ya]
   simp only [ya]
   rw [m6 n A _ _ V (by omega) hn, ya, oK, wV n (k, H), wK n (k, H) U (by omega), z]
   simp only [ya]
   rw [aU (by simp only [yi]; omega), aU (by simp only [yi]; omega), aH (by omega)]
   cases a.1 <;> cases bN m.recs.length 4 A <;> rfl
  ·rw [h1, fM hx]
  ·simp only [yi]; omega
  ·intro M
   simp only [yc, z] at M
   simp only []
   rw [N M.1, lG M.2.1, dG hx]
   simp only [AG, yw1]
 ·obtain ⟨h1, h2, N⟩ := hI
  rw [yf2] at h1 N
  refine ⟨_, ?_, a.2, rfl, by omega, fun M => N (h1.trans M)⟩
  show qbc_B6 n (m.recs.length : Int) a.1 (m.imps.length : Int) m.recs m.funcs m.imps m.ints m.texts J K a.2 = _
  unfold qbc_B6
  rw [aC, decide_eq_false (by omega), ye, h1]
theorem Pk {v : Nat} (hv : v < 18446744073709551616) : ME .u64 (v : Int) 256 = ((v / 256 : Nat) : Int) := by
 show IntKind.u64.wrap ((v : Int).tdiv 256) = _
 rw [Int.tdiv_eq_ediv_of_nonneg (by omega), z0]
 omega
theorem G5 (n : Nat) (v : Nat) (A : v < 18446744073709551616) (hn : 20 ≤ n) : qcf n (v : Int) 8 = some (s8 8 v) := by
 have h := dL (B := fun s => qcf_B0 n s.1.1 s.1.2.1 s.1.2.2 s.2) (xs := List.range 8) (mk := fun i (a : List Int) => ((((v / 256 ^ i : Nat) : Int), ((8 : Int), (i : Int))), a)) (I := fun i a => a = (List.range i).map fun j => ((v / 256 ^ j % 256 : Nat) : Int)) (Q := fun y => y = s8 8 v)
  (fun i a x hx hI => ?_) (fun a hI => ?_) 8 0 n [] (by simp) rfl (by omega)
 ·obtain ⟨y, h1, rfl⟩ := h
  unfold qcf
  rw [Nat.pow_zero, Nat.div_one] at h1
  rw [show qcf_W0 n (((v : Int), ((8 : Int), 0)), []) = _ from h1]
  rfl
 ·have J := aN hx
  rw [yj2] at J
  subst hI
  have z : v / 256 ^ i < 18446744073709551616 := Nat.lt_of_le_of_lt (Nat.div_le_self _ _) A
  have K : v / 256 ^ (i + 1) = v / 256 ^ i / 256 := by rw [Nat.pow_succ, Nat.div_div_eq_div_mul]
  have H : (List.range (i + 1)).map (fun j => ((v / 256 ^ j % 256 : Nat) : Int)) = (List.range i).map (fun j => ((v / 256 ^ j % 256 : Nat) : Int)) ++ [((v / 256 ^ i % 256 : Nat) : Int)] := by
   rw [List.range_succ, List.map_append]; rfl
  refine .inl ⟨_, ?_, rfl⟩
  rw [K, H]
  generalize v / 256 ^ i = q at z
  show qcf_B0 n (q : Int) 8 (i : Int) ((List.range i).map fun j => ((v / 256 ^ j % 256 : Nat) : Int)) = _
  unfold qcf_B0
  rw [decide_eq_true (by omega), yg, yg, Bx (by omega), p5 (by omega) (by omega), Pk z, aU (by simp; omega), yg, aH (by omega)]
  rfl
 ·subst hI
  refine ⟨_, ?_, rfl⟩
  rfl
theorem O1 (n : Nat) (m : aW) (O : Fh m) (N : m.ints.length ≤ 16) (ok : Bool) (z H A : List Int) (hn : 6000 ≤ n) :
  qbc_W8 n ((ok, 0), (aJ m, (z, (H, (A, bJ m.ints.length))))) = some (ok, (aJ m, (z, (H, (A, cL (fun v => s8 8 v.toNat) m.ints))))) := by
 have hv := aS m.ints.length
 have h := dY (B := fun s => qbc_B8 n s.1.1 s.1.2 s.2.1.1 s.2.1.2.1 s.2.1.2.2.1 s.2.1.2.2.2.1 s.2.1.2.2.2.2 s.2.2.1 s.2.2.2.1 s.2.2.2.2.1 s.2.2.2.2.2) (xs := m.ints) (mk := fun i a => ((ok, (i : Int)), (aJ m, (z, (H, (A, a)))))) (f := fun v => s8 8 v.toNat)
  (e := fun a => (ok, (aJ m, (z, (H, (A, a)))))) (c := 8) (m0 := bJ m.ints.length) (cap := 40000) (fun x hx => by rw [lZ]; omega) (by omega) (fun i a x hx J K => ?_) (fun a => ?_) (n := n) (by omega)
 ·exact h
 ·have hi := aN hx
  have M := O.ints x J
  obtain ⟨u, rfl⟩ : ∃ u : Nat, x = (u : Int) := ⟨x.toNat, by omega⟩
  show qbc_B8 n ok (i : Int) m.recs m.funcs m.imps m.ints m.texts z H A a = _
  unfold qbc_B8
  rw [lZ] at K
  rw [aC, decide_eq_true (by omega), yg, aE, hx, ya, G5 n u (by omega) (by omega), ya, aU (by rw [yi, lZ]; omega), yg, aH (by omega), yb1]
 ·show qbc_B8 n ok (m.ints.length : Int) m.recs m.funcs m.imps m.ints m.texts z H A a = _
  unfold qbc_B8
  rw [aC, decide_eq_false (by omega), ye]
theorem HZ {s : ByteArray} : (s4 s).length ≤ 11 + s.size := by
 have := aS s.size
 rw [s4, yi, j7]; omega
theorem NH (n : Nat) (m : aW) (hL : oY m) (O : m.texts.length ≤ 16) (ok : Bool) (z H A J : List Int) (hn : 6000 ≤ n) :
  qbc_W10 n ((ok, 0), (aJ m, (z, (H, (A, (J, bJ m.texts.length)))))) = some (ok && m.texts.all fun s => decide (s.size ≤ 32), (aJ m, (z, (H, (A, (J, cL s4 m.texts)))))) := by
 have hv := aS m.texts.length
 have h := dL (B := fun s => qbc_B10 n s.1.1 s.1.2 s.2.1.1 s.2.1.2.1 s.2.1.2.2.1 s.2.1.2.2.2.1 s.2.1.2.2.2.2 s.2.2.1 s.2.2.2.1 s.2.2.2.2.1 s.2.2.2.2.2.1 s.2.2.2.2.2.2) (xs := m.texts) (mk := fun i (a : Bool × List Int) => ((a.1, (i : Int)), (aJ m, (z, (H, (A, (J, a.2)))))))
  (I := fun i a => a.1 = (ok && (m.texts.take i).all fun s => decide (s.size ≤ 32)) ∧ a.2.length ≤ 11 + 3011 * i ∧ a.2 = bJ m.texts.length ++ (m.texts.take i).flatMap s4)
  (Q := fun y => y = (ok && m.texts.all fun s => decide (s.size ≤ 32), (aJ m, (z, (H, (A, (J, cL s4 m.texts)))))))
  (fun i a x hx hI => ?_) (fun a hI => ?_) m.texts.length 0 n (ok, bJ m.texts.length) (by omega) ⟨by simp, by simp; omega, by simp⟩ (by omega)
 ·obtain ⟨y, h1, rfl⟩ := h
  exact h1
 ·have hi := aN hx
  have hs := hL.texts x (yj hx)
  have N := aS x.size
  obtain ⟨h1, h2, K⟩ := hI
  have M : decide (yQ x ≤ 32) = decide (x.size ≤ 32) := by
   unfold yQ
   by_cases h : x.size ≤ 32
   ·rw [decide_eq_true h, decide_eq_true (by omega)]
   ·rw [decide_eq_false h, decide_eq_false (by omega)]
  refine .inl ⟨(a.1 && decide (x.size ≤ 32), a.2 ++ s4 x), ?_, ?_, ?_, ?_⟩
  ·show qbc_B10 n a.1 (i : Int) m.recs m.funcs m.imps m.ints m.texts z H A J a.2 = _
   unfold qbc_B10
   rw [aC, decide_eq_true (by omega), yg, aE, hx]
   simp only [ya]
   rw [show aY .u64 (yQ x) = ((x.size : Nat) : Int) from cW (a := ((x.size : Nat) : Int)) (by omega) (by omega), dS n x.size (by omega) (by omega)]
   simp only [ya]
   rw [aU (by rw [yi]; omega), aU (by simp only [yi, j7]; omega), aH (by omega), M]
   cases a.1 <;> simp [s4]
  ·simp only []
   rw [h1, fM hx, Bool.and_assoc]
  ·have := HZ (s := x)
   simp only [yi]; omega
  ·simp only []
   rw [K, dG hx, yw1]
 ·obtain ⟨h1, h2, K⟩ := hI
  rw [yf2] at h1 K
  refine ⟨_, ?_, rfl⟩
  show qbc_B10 n a.1 (m.texts.length : Int) m.recs m.funcs m.imps m.ints m.texts z H A J a.2 = _
  unfold qbc_B10
  rw [aC, decide_eq_false (by omega), ye, h1, K]
  rfl
theorem JK (n : Nat) (l : List (List Int)) (hl : l.length ≤ 100) (H : ∀ x ∈ l, x.length ≤ 3000000) (hn : 200 ≤ n) : qdb n l = some (Nb l) := by
 have hv := aS l.length
 have A : ∀ x ∈ l, (bJ x.length ++ x).length ≤ 3000011 := fun x hx => by
  have := aS x.length
  have := H x hx
  rw [yi]; omega
 unfold qdb
 rw [aC, cW (by omega) (by omega), dS n l.length (by omega) (by omega), ya]
 have h := dY (B := fun s => qdb_B0 n s.1.1 s.1.2 s.2) (xs := l) (mk := fun i a => ((l, (i : Int)), a)) (f := fun p => bJ p.length ++ p) (e := id) (c := 3000011) (m0 := bJ l.length) (cap := 400000000)
  A (by omega) (fun i a x hx z J => ?_) (fun a => ?_) (n := n) (by omega)
 ·rw [show qdb_W0 n ((l, 0), bJ l.length) = _ from h, ya]
  rfl
 ·have hi := aN hx
  have K := aS x.length
  have M := H x z
  rw [yi] at J
  show qdb_B0 n l (i : Int) a = _
  unfold qdb_B0
  rw [aC, decide_eq_true (by omega), yg, aE, hx]
  simp only [ya]
  rw [aC, cW (by omega) (by omega), dS n x.length (by omega) (by omega), ya, aU (by rw [yi]; omega), yg, aU (by simp only [yi]; omega), yg, aH (by omega), yw1]
 ·show qdb_B0 n l (l.length : Int) a = _
  unfold qdb_B0
  rw [aC, decide_eq_false (by omega), ye]; rfl
theorem Gk (n : Nat) (m : aW) (N : Fh m) (hL : oY m) (hn : 6000 ≤ n) : ∃ b, qbc n m.recs m.funcs m.imps m.ints m.texts = some (b, cN m) ∧ (cN m = true → b = B3 m) := by
 unfold qbc
 rw [aC m.recs, aC m.funcs, aC m.imps, aC m.ints, aC m.texts]
 have K : cN m = false → ∃ b : List Int, some (([] : List Int), false) = some (b, cN m) ∧ (cN m = true → b = B3 m) := fun h => ⟨[], by rw [h], fun Z => by rw [h] at Z; cases Z⟩
 by_cases h1 : m.recs.length ≤ 8
 case neg =>
  rw [decide_eq_true (by omega : (m.recs.length : Int) > 8), yg]
  exact K (by unfold cN; rw [decide_eq_false h1]; rfl)
 rw [decide_eq_false (by omega : ¬ (m.recs.length : Int) > 8), ye]
 by_cases h2 : 1 ≤ m.funcs.length
 case neg =>
  rw [decide_eq_true (by omega : (m.funcs.length : Int) < 1), yg]
  exact K (by unfold cN; rw [decide_eq_false h2]; simp)
 rw [decide_eq_false (by omega : ¬ (m.funcs.length : Int) < 1), ye]
 by_cases V : m.funcs.length ≤ 8
 case neg =>
  rw [decide_eq_true (by omega : (m.funcs.length : Int) > 8), yg]
  exact K (by unfold cN; rw [decide_eq_false V]; simp)
 rw [decide_eq_false (by omega : ¬ (m.funcs.length : Int) > 8), ye]
 by_cases W : m.imps.length ≤ 8
 case neg =>
  rw [decide_eq_true (by omega : (m.imps.length : Int) > 8), yg]
  exact K (by unfold cN; rw [decide_eq_false W]; simp)
 rw [decide_eq_false (by omega : ¬ (m.imps.length : Int) > 8), ye]
 by_cases U : m.ints.length ≤ 16
 case neg =>
  rw [decide_eq_true (by omega : (m.ints.length : Int) > 16), yg]
  exact K (by unfold cN; rw [decide_eq_false U]; simp)
 rw [decide_eq_false (by omega : ¬ (m.ints.length : Int) > 16), ye]
 by_cases O : m.texts.length ≤ 16
 case neg =>
  rw [decide_eq_true (by omega : (m.texts.length : Int) > 16), yg]
  exact K (by unfold cN; rw [decide_eq_false O]; simp)
 rw [decide_eq_false (by omega : ¬ (m.texts.length : Int) > 16), ye]
 have H : cN m = (m.recs.all (bN m.recs.length 6) && m.funcs.all (oF m.recs.length) && (m.imps.all (qG m.recs.length) && m.texts.all fun s => decide (s.size ≤ 32))) := by
  unfold cN
  rw [decide_eq_true h1, decide_eq_true h2, decide_eq_true V, decide_eq_true W, decide_eq_true U, decide_eq_true O]
  simp only [yu, Bool.and_assoc]
 obtain ⟨J, e1, Y⟩ := Ou n m N hL h1 hn
 obtain ⟨y, e2, p2⟩ := Nz n m N hL h2 V (m.recs.all (bN m.recs.length 6)) J hn
 rw [cW (by omega) (by omega), dS n m.recs.length (by omega) (by omega), ya]
 rw [show qbc_W0 n (((m.recs.length : Int), (true, 0)), ((m.recs, (m.funcs, (m.imps, (m.ints, m.texts)))), bJ m.recs.length)) = _ from e1, ya]
 simp only []
 rw [aC m.funcs, cW (by omega) (by omega), dS n m.funcs.length (by omega) (by omega), ya]
 rw [show qbc_W2 n (((m.recs.length : Int), (m.recs.all (bN m.recs.length 6), 0)), ((m.recs, (m.funcs, (m.imps, (m.ints, m.texts)))), (J, bJ m.funcs.length))) = _ from e2, ya]
 rcases p2 with ⟨hf, rfl⟩ | ⟨hf, z, rfl⟩
 ·have A := hf
  rw [yc] at A
  obtain ⟨M, e3, l3, p3⟩ := OM n m N hL W J (cL pK m.funcs) hn
  simp only []
  rw [aC m.imps, cW (by omega) (by omega), dS n m.imps.length (by omega) (by omega), ya]
  rw [show qbc_W6 n (((m.recs.length : Int), (true, 0)), ((m.recs, (m.funcs, (m.imps, (m.ints, m.texts)))), (J, (cL pK m.funcs, bJ m.imps.length)))) = _ from e3, ya]
  simp only []
  rw [aC m.ints, cW (by omega) (by omega), dS n m.ints.length (by omega) (by omega), ya]
  rw [show qbc_W8 n ((m.imps.all (qG m.recs.length), 0), ((m.recs, (m.funcs, (m.imps, (m.ints, m.texts)))), (J, (cL pK m.funcs, (M, bJ m.ints.length))))) = _ from O1 n m N U _ J _ M hn, ya]
  simp only []
  rw [aC m.texts, cW (by omega) (by omega), dS n m.texts.length (by omega) (by omega), ya]
  rw [show qbc_W10 n ((m.imps.all (qG m.recs.length), 0), ((m.recs, (m.funcs, (m.imps, (m.ints, m.texts)))), (J, (cL pK m.funcs, (M, (cL (fun v => s8 8 v.toNat) m.ints, bJ m.texts.length)))))) = _ from NH n m hL O _ J _ M _ hn, ya]
  simp only []
  have v1 := aS m.recs.length
  have v2 := aS m.funcs.length
  have v4 := aS m.ints.length
  have v5 := aS m.texts.length
  have c1 := b8 cM 143 m.recs fun x hx => by
   have := eY x
   have := iB (yx.1 A.1 x hx)
   omega
  have c2 := b8 pK 1900 m.funcs fun x hx => (qU (yx.1 A.2 x hx)).2.2.2.2
  have c4 := b8 (fun v : Int => s8 8 v.toNat) 8 m.ints fun x hx => by rw [lZ]; omega
  have c5 := b8 s4 3011 m.texts fun x hx => by
   have := HZ (s := x)
   have := hL.texts x hx
   omega
  rw [JK n [J, cL pK m.funcs, M, cL (fun v => s8 8 v.toNat) m.ints, cL s4 m.texts] (by simp) ?_ (by omega), ya]
  ·refine ⟨_, by rw [H, A.1, A.2]; rfl, fun h => ?_⟩
   rw [H, yc, yc (m.imps.all _)] at h
   rw [Y A.1, p3 h.2.1]
   rfl
  ·intro x hx
   simp only [yq1, List.not_mem_nil, or_false] at hx
   rcases hx with rfl | rfl | rfl | rfl | rfl
   ·rw [Y A.1, cL, yi]; omega
   ·rw [cL, yi]; omega
   ·omega
   ·rw [cL, yi]; omega
   ·rw [cL, yi]; omega
 ·exact K (by rw [H, hf]; rfl)
end Sx
end
section
namespace Sx
open Go Go.Ab
structure MD (m : aW) : Prop where
 n1 : m.recs.length ≤ 140737488351232
 n2 : m.funcs.length ≤ 140737488351232
 n3 : m.imps.length ≤ 140737488351232
 n4 : m.ints.length ≤ 140737488351232
 n5 : m.texts.length ≤ 140737488351232
 recs : ∀ l ∈ m.recs, l.length ≤ 140737488351232
 funcs : ∀ f ∈ m.funcs, f.1.length ≤ 140737488351232 ∧ f.2.2.2.1.length ≤ 140737488351232 ∧ f.2.2.2.2.length ≤ 140737488351232
 imps : ∀ i ∈ m.imps, i.1.length ≤ 140737488351232
 texts : ∀ s ∈ m.texts, s.size ≤ 140737488351232
theorem l6 {S X A : Type} {B : S → Option (S ⊕ X)} {xs : List A} {mk : Nat → Int → S} {f : A → Nat} {e : Int → X} {c : Nat} {base : Int} (hb : 0 ≤ base) (U : ∀ x ∈ xs, f x ≤ c) (N : base + (c : Int) * (xs.length : Int) ≤ 9000000000000000000)
  (Y : ∀ i a x, xs[i]? = some x → x ∈ xs → 0 ≤ a → a + (f x : Int) ≤ 9000000000000000000 → B (mk i a) = some (.inl (mk (i + 1) (a + (f x : Int))))) (V : ∀ a, B (mk xs.length a) = some (.inr (e a))) {n : Nat} (hn : xs.length < n) :
  ∃ a, aK B n (mk 0 base) = some (e a) ∧ base ≤ a ∧ a ≤ base + (c : Int) * (xs.length : Int) ∧ ∀ x ∈ xs, (f x : Int) ≤ a := by
 have h := dL (B := B) (xs := xs) (mk := mk) (I := fun i a => base ≤ a ∧ a ≤ base + (c : Int) * (i : Int) ∧ ∀ x ∈ xs.take i, (f x : Int) ≤ a) (Q := fun y => ∃ a, y = e a ∧ base ≤ a ∧ a ≤ base + (c : Int) * (xs.length : Int) ∧ ∀ x ∈ xs, (f x : Int) ≤ a)
  (fun i a x hx hI => ?_) (fun a hI => ?_) xs.length 0 n base (by omega) ⟨Int.le_refl _, by simp, by simp⟩ hn
 ·obtain ⟨y, h1, a, rfl, h2⟩ := h
  exact ⟨a, h1, h2⟩
 ·have W := aN hx
  have hm := yj hx
  have O := U x hm
  obtain ⟨h1, h2, K⟩ := hI
  have M : (c : Int) * (i : Int) + (c : Int) ≤ (c : Int) * (xs.length : Int) := by
   have : (c * (i + 1) : Nat) ≤ c * xs.length := Nat.mul_le_mul_left c W
   rw [Nat.mul_succ] at this
   have h := Int.ofNat_le.2 this
   simpa using h
  have H : (c : Int) * ((i + 1 : Nat) : Int) = (c : Int) * (i : Int) + (c : Int) := by
   rw [Int.natCast_add, Int.mul_add]; simp
  refine .inl ⟨_, Y i a x hx hm (by omega) (by omega), by omega, by rw [H]; omega, fun z J => ?_⟩
  rw [yv2, hx, yy1] at J
  rcases J with J | J
  ·have := K z J; omega
  ·simp at J; subst J; omega
 ·obtain ⟨h1, h2, K⟩ := hI
  rw [yf2] at K
  exact ⟨_, V a, a, rfl, h1, h2, K⟩
theorem dD {a b : Int} (h1 : 0 ≤ a) (h2 : 0 ≤ b) (h3 : a + b ≤ 9000000000000000000) : aI .i64 a b = a + b := cK (by omega) (by omega)
theorem qY (n : Nat) (m : aW) (hl : MD m) (hn : 6000 ≤ n) : ∃ b, qcg n m.recs m.funcs m.imps m.ints m.texts = some b ∧ (b = true → oY m) := by
 unfold qcg
 have n1 := hl.n1
 have n2 := hl.n2
 have n3 := hl.n3
 have n4 := hl.n4
 have n5 := hl.n5
 have hs : aI .i64 (aI .i64 (aI .i64 (aI .i64 (aA m.recs) (aA m.funcs)) (aA m.imps)) (aA m.ints)) (aA m.texts) = ((m.recs.length + m.funcs.length + m.imps.length + m.ints.length + m.texts.length : Nat) : Int) := by
  simp only [aC]
  rw [dD (b := ((m.funcs.length : Nat) : Int)) (by omega) (by omega) (by omega), dD (b := ((m.imps.length : Nat) : Int)) (by omega) (by omega) (by omega), dD (b := ((m.ints.length : Nat) : Int)) (by omega) (by omega) (by omega), dD (b := ((m.texts.length : Nat) : Int)) (by omega) (by omega) (by omega)]
  omega
 rw [hs]
 by_cases M : m.recs.length + m.funcs.length + m.imps.length + m.ints.length + m.texts.length ≤ 200
 case neg =>
  rw [decide_eq_true (by omega), yg]
  exact ⟨false, rfl, fun h => by cases h⟩
 rw [decide_eq_false (by omega), ye]
 obtain ⟨N, e1, l1, u1, V⟩ := l6 (B := fun s => qcg_B0 n s.1.1 s.1.2 s.2.1 s.2.2.1 s.2.2.2.1 s.2.2.2.2.1 s.2.2.2.2.2) (xs := m.recs) (mk := fun i (a : Int) => ((a, (i : Int)), aJ m)) (f := List.length) (e := fun a => (a, aJ m)) (c := 140737488351232)
  (base := ((m.recs.length + m.funcs.length + m.imps.length + m.ints.length + m.texts.length : Nat) : Int)) (by omega) hl.recs (by omega) (fun i a x hx hm A z => by
   have J := aN hx
   show qcg_B0 n a (i : Int) m.recs m.funcs m.imps m.ints m.texts = _
   unfold qcg_B0
   rw [aC, decide_eq_true (by omega), yg, aE, hx, ya, aC, dD A (by omega) z, aH (by omega)]) (fun a => by
   show qcg_B0 n a (m.recs.length : Int) m.recs m.funcs m.imps m.ints m.texts = _
   unfold qcg_B0
   rw [aC, decide_eq_false (by omega), ye]) (n := n) (by omega)
 rw [show qcg_W0 n ((((m.recs.length + m.funcs.length + m.imps.length + m.ints.length + m.texts.length : Nat) : Int), 0), (m.recs, (m.funcs, (m.imps, (m.ints, m.texts))))) = _ from e1, ya]
 obtain ⟨K, Z, l2, u2, p2⟩ := l6 (B := fun s => qcg_B2 n s.1.1 s.1.2 s.2.1 s.2.2.1 s.2.2.2.1 s.2.2.2.2.1 s.2.2.2.2.2) (xs := m.funcs) (mk := fun i (a : Int) => ((a, (i : Int)), aJ m)) (f := fun f => f.1.length + f.2.2.2.1.length + f.2.2.2.2.length) (e := fun a => (a, aJ m)) (c := 422212465053696)
  (base := N) (by omega) (fun f hf => by obtain ⟨h1, h2, h3⟩ := hl.funcs f hf; omega) (by omega) (fun i a x hx hm A z => by
   have J := aN hx
   show qcg_B2 n a (i : Int) m.recs m.funcs m.imps m.ints m.texts = _
   unfold qcg_B2
   rw [aC, decide_eq_true (by omega), yg, aE, hx]
   simp only [ya, aC]
   rw [dD (b := ((x.1.length : Nat) : Int)) A (by omega) (by omega), dD (b := ((x.2.2.2.1.length : Nat) : Int)) (by omega) (by omega) (by omega), dD (b := ((x.2.2.2.2.length : Nat) : Int)) (by omega) (by omega) (by omega), aH (by omega)]
   have : a + ((x.1.length : Nat) : Int) + ((x.2.2.2.1.length : Nat) : Int) + ((x.2.2.2.2.length : Nat) : Int) = a + ((x.1.length + x.2.2.2.1.length + x.2.2.2.2.length : Nat) : Int) := by omega
   rw [this]) (fun a => by
   show qcg_B2 n a (m.funcs.length : Int) m.recs m.funcs m.imps m.ints m.texts = _
   unfold qcg_B2
   rw [aC, decide_eq_false (by omega), ye]) (n := n) (by omega)
 rw [show qcg_W2 n ((N, 0), (m.recs, (m.funcs, (m.imps, (m.ints, m.texts))))) = _ from Z, ya]
 obtain ⟨O, e3, l3, u3, W⟩ := l6 (B := fun s => qcg_B4 n s.1.1 s.1.2 s.2.1 s.2.2.1 s.2.2.2.1 s.2.2.2.2.1 s.2.2.2.2.2) (xs := m.imps) (mk := fun i (a : Int) => ((a, (i : Int)), aJ m)) (f := fun f => f.1.length) (e := fun a => (a, aJ m)) (c := 140737488351232)
  (base := K) (by omega) hl.imps (by omega) (fun i a x hx hm A z => by
   have J := aN hx
   show qcg_B4 n a (i : Int) m.recs m.funcs m.imps m.ints m.texts = _
   unfold qcg_B4
   rw [aC, decide_eq_true (by omega), yg, aE, hx, ya, aC, dD A (by omega) z, aH (by omega)]) (fun a => by
   show qcg_B4 n a (m.imps.length : Int) m.recs m.funcs m.imps m.ints m.texts = _
   unfold qcg_B4
   rw [aC, decide_eq_false (by omega), ye]) (n := n) (by omega)
 rw [show qcg_W4 n ((K, 0), (m.recs, (m.funcs, (m.imps, (m.ints, m.texts))))) = _ from e3, ya]
 obtain ⟨a4, U, l4, u4, Y⟩ := l6 (B := fun s => qcg_B6 n s.1.1 s.1.2 s.2.1 s.2.2.1 s.2.2.2.1 s.2.2.2.2.1 s.2.2.2.2.2) (xs := m.texts) (mk := fun i (a : Int) => ((a, (i : Int)), aJ m)) (f := ByteArray.size) (e := fun a => (a, aJ m)) (c := 140737488351232)
  (base := O) (by omega) hl.texts (by omega) (fun i a x hx hm A z => by
   have J := aN hx
   show qcg_B6 n a (i : Int) m.recs m.funcs m.imps m.ints m.texts = _
   unfold qcg_B6
   rw [aC, decide_eq_true (by omega), yg, aE, hx, ya, show yQ x = ((x.size : Nat) : Int) from rfl, dD A (by omega) z, aH (by omega)]) (fun a => by
   show qcg_B6 n a (m.texts.length : Int) m.recs m.funcs m.imps m.ints m.texts = _
   unfold qcg_B6
   rw [aC, decide_eq_false (by omega), ye]) (n := n) (by omega)
 rw [show qcg_W6 n ((O, 0), (m.recs, (m.funcs, (m.imps, (m.ints, m.texts))))) = _ from U, ya]
 refine ⟨_, rfl, fun h => ?_⟩
 have H := of_decide_eq_true h
 simp only at H
 refine ⟨by omega, by omega, by omega, by omega, by omega, fun x hx => ?_, fun x hx => ?_, fun x hx => ?_, fun x hx => ?_⟩
 ·have := V x hx; omega
 ·have := p2 x hx; omega
 ·have := W x hx; omega
 ·have := Y x hx; omega
noncomputable def iU (m : aW) (f : iT) (i : B0) : Bool := (qco 0 m.recs m.funcs m.imps m.ints m.texts f.1 f.2.1 f.2.2.1 f.2.2.2.1 f.2.2.2.2 i.1 i.2.1 i.2.2).getD false
theorem lV {i : B0} (h : jB i = false) : 0 ≤ i.2.1 ∧ i.2.1 ≤ 255 ∧ 0 ≤ i.2.2 ∧ i.2.2 ≤ 255 := by
 have := of_decide_eq_false h
 omega
theorem jG {β : Type} {c : Bool} {a b : Option β} (z : ∃ x, a = some x) (h : ∃ x, b = some x) : ∃ x, (bif c then a else b) = some x := by cases c; exact h; exact z
theorem IA (n : Nat) (m : aW) (f : iT) (i : B0) (z : jB i = false) : qco n m.recs m.funcs m.imps m.ints m.texts f.1 f.2.1 f.2.2.1 f.2.2.2.1 f.2.2.2.2 i.1 i.2.1 i.2.2 = some (iU m f i) := by
 obtain ⟨h1, _, _, _⟩ := lV z
 have A : ∃ b, qco n m.recs m.funcs m.imps m.ints m.texts f.1 f.2.1 f.2.2.1 f.2.2.2.1 f.2.2.2.2 i.1 i.2.1 i.2.2 = some b := by
  have H : (bif decide (i.2.1 < aA m.recs) then (aD m.recs i.2.1).bind fun x => some (decide (i.2.2 < aA x)) else some false) = some (bif decide (i.2.1 < aA m.recs) then decide (i.2.2 < aA ((aD m.recs i.2.1).getD [])) else false) := by
   cases h : decide (i.2.1 < aA m.recs) with
   | false => rfl
   | true =>
    have h := of_decide_eq_true h
    rw [aC] at h
    obtain ⟨u, hu⟩ : ∃ u : Nat, i.2.1 = (u : Int) := ⟨i.2.1.toNat, by omega⟩
    rw [hu, aE, yd (by omega)]
    rfl
  unfold qco
  rw [H]
  exact jG ⟨_, rfl⟩ (jG ⟨_, rfl⟩ (jG ⟨_, rfl⟩ (jG ⟨_, rfl⟩ (jG ⟨_, rfl⟩ (jG ⟨_, rfl⟩ (jG ⟨_, rfl⟩ (jG ⟨_, rfl⟩ (jG ⟨_, rfl⟩ (jG ⟨_, rfl⟩ (jG ⟨_, rfl⟩ ⟨_, rfl⟩))))))))))
 obtain ⟨b, z⟩ := A
 have : iU m f i = b := by
  unfold iU
  rw [show qco 0 m.recs m.funcs m.imps m.ints m.texts f.1 f.2.1 f.2.2.1 f.2.2.2.1 f.2.2.2.2 i.1 i.2.1 i.2.2 = some b from z]
  rfl
 rw [z, this]
theorem qdf_eq (n : Nat) (m : aW) (f : iT) (i : B0) (h : jB i = false) : qdf n m.recs m.funcs m.imps m.ints m.texts f.1 f.2.1 f.2.2.1 f.2.2.2.1 f.2.2.2.2 i.1 i.2.1 i.2.2 = some (iU m f i) := by
 rw [← IA n m f i h]
 rfl
def jK (t : cQ) : Bool := t.1 == 1 || t.1 == 5
theorem Ck (n : Nat) (t : cQ) : qdt n t.1 t.2 = some (jK t) := by
 unfold qdt jK
 cases t.1 == 1 <;> rfl
noncomputable def qF (m : aW) (f : iT) : Bool := f.2.2.2.2.any (fun i => !iU m f i) || f.2.2.2.1.any (fun t => t.1 == 5)
def Dl (i : Mw) : Bool := !jK (i.2.1, i.2.2) || i.1.any fun t => !jK t
noncomputable def b9 (m : aW) : Int := if cN m = false then 2 else if m.funcs.any (qF m) = true then 1 else if m.imps.any Dl = true then 1 else 0
theorem LD (n : Nat) (m : aW) (f : iT) (z : ∀ i ∈ f.2.2.2.2, jB i = false) (hl : f.2.2.2.2.length ≤ 64) (hn : 100 ≤ n) :
  qc n f.2.2.2.2 m.recs m.funcs m.imps m.ints m.texts f.1 f.2.1 f.2.2.1 f.2.2.2.1 f.2.2.2.2 = some (f.2.2.2.2.any (fun i => !iU m f i), (aJ m, f)) := by
 unfold qc qr
 have h := bA (B := fun s => qr_B0 n s.1.1 s.1.2.1 s.1.2.2 s.2.1.1 s.2.1.2.1 s.2.1.2.2.1 s.2.1.2.2.2.1 s.2.1.2.2.2.2 s.2.2.1 s.2.2.2.1 s.2.2.2.2.1 s.2.2.2.2.2.1 s.2.2.2.2.2.2) (xs := f.2.2.2.2) (mk := fun i => ((f.2.2.2.2, (aA f.2.2.2.2, (i : Int))), (aJ m, f)))
  (p := fun i => !iU m f i) (found := fun i x => Sum.inl ((i : Int), (aJ m, f))) (e := Sum.inr (aJ m, f)) (fun i x hx => ?_) ?_ f.2.2.2.2.length 0 n (by omega) (by omega)
 ·rw [yl1] at h
  rcases h with ⟨h1, k, x, _, _, h2⟩ | ⟨h1, h2⟩
  ·rw [show qr_W0 n ((f.2.2.2.2, (aA f.2.2.2.2, 0)), ((m.recs, (m.funcs, (m.imps, (m.ints, m.texts)))), (f.1, (f.2.1, (f.2.2.1, (f.2.2.2.1, f.2.2.2.2)))))) = _ from h2, h1]
   show some (decide ((k : Int) ≥ 0), _) = _
   rw [decide_eq_true (by omega)]
  ·rw [show qr_W0 n ((f.2.2.2.2, (aA f.2.2.2.2, 0)), ((m.recs, (m.funcs, (m.imps, (m.ints, m.texts)))), (f.1, (f.2.1, (f.2.2.1, (f.2.2.2.1, f.2.2.2.2)))))) = _ from h2, h1]
   rfl
 ·have hi := aN hx
  show qr_B0 n f.2.2.2.2 (aA f.2.2.2.2) (i : Int) m.recs m.funcs m.imps m.ints m.texts f.1 f.2.1 f.2.2.1 f.2.2.2.1 f.2.2.2.2 = _
  unfold qr_B0 qcp
  rw [aC, decide_eq_true (by omega), yg, aE, hx, ya, qdf_eq n m f x (z x (yj hx)), ya, ya, aH (by omega)]
  cases iU m f x <;> rfl
 ·show qr_B0 n f.2.2.2.2 (aA f.2.2.2.2) (f.2.2.2.2.length : Int) m.recs m.funcs m.imps m.ints m.texts f.1 f.2.1 f.2.2.1 f.2.2.2.1 f.2.2.2.2 = _
  unfold qr_B0
  rw [aC, decide_eq_false (by omega), ye]
theorem OC (n : Nat) (l : List cQ) (hl : l.length ≤ 64) (hn : 100 ≤ n) : qe n l = some (l.any fun t => t.1 == 5) := by
 unfold qe qab
 have h := bA (B := fun s => qab_B0 n s.1 s.2.1 s.2.2) (xs := l) (mk := fun i => (l, (aA l, (i : Int)))) (p := fun t => t.1 == 5) (found := fun i x => Sum.inl (i : Int)) (e := Sum.inr ())
  (fun i x hx => ?_) ?_ l.length 0 n (by omega) (by omega)
 ·rw [yl1] at h
  rcases h with ⟨h1, k, x, _, _, h2⟩ | ⟨h1, h2⟩
  ·rw [show qab_W0 n (l, (aA l, 0)) = some (Sum.inl (k : Int)) from h2, h1]
   show some (decide ((k : Int) ≥ 0)) = _
   rw [decide_eq_true (by omega)]
  ·rw [show qab_W0 n (l, (aA l, 0)) = some (Sum.inr ()) from h2, h1]
   rfl
 ·have hi := aN hx
  show qab_B0 n l (aA l) (i : Int) = _
  unfold qab_B0 qbp
  rw [aC, decide_eq_true (by omega), yg, aE, hx, ya, ya, aH (by omega)]
  cases x.1 == 5 <;> rfl
 ·show qab_B0 n l (aA l) (l.length : Int) = _
  unfold qab_B0
  rw [aC, decide_eq_false (by omega), ye]
theorem Kn (n : Nat) (l : List cQ) (hl : l.length ≤ 64) (hn : 100 ≤ n) : qh n l = some (l.any fun t => !jK t) := by
 unfold qh qag
 have h := bA (B := fun s => qag_B0 n s.1 s.2.1 s.2.2) (xs := l) (mk := fun i => (l, (aA l, (i : Int)))) (p := fun t => !jK t) (found := fun i x => Sum.inl (i : Int)) (e := Sum.inr ())
  (fun i x hx => ?_) ?_ l.length 0 n (by omega) (by omega)
 ·rw [yl1] at h
  rcases h with ⟨h1, k, x, _, _, h2⟩ | ⟨h1, h2⟩
  ·rw [show qag_W0 n (l, (aA l, 0)) = some (Sum.inl (k : Int)) from h2, h1]
   show some (decide ((k : Int) ≥ 0)) = _
   rw [decide_eq_true (by omega)]
  ·rw [show qag_W0 n (l, (aA l, 0)) = some (Sum.inr ()) from h2, h1]
   rfl
 ·have hi := aN hx
  show qag_B0 n l (aA l) (i : Int) = _
  unfold qag_B0 qbb
  rw [aC, decide_eq_true (by omega), yg, aE, hx, ya, Ck n x, ya, ya, aH (by omega)]
  cases jK x <;> rfl
 ·show qag_B0 n l (aA l) (l.length : Int) = _
  unfold qag_B0
  rw [aC, decide_eq_false (by omega), ye]
theorem OL (n : Nat) (i : Mw) (hl : i.1.length ≤ 64) (hn : 100 ≤ n) : qcm n i.1 i.2.1 i.2.2 = some (Dl i) := by
 unfold qcm Dl
 rw [Ck n (i.2.1, i.2.2), ya]
 cases jK (i.2.1, i.2.2) with
 | false => rfl
 | true => rw [yw, ye, Kn n i.1 hl hn]; rfl
theorem My (n : Nat) (l : List Mw) (z : ∀ i ∈ l, i.1.length ≤ 64) (hl : l.length ≤ 64) (hn : 100 ≤ n) : qa n l = some (l.any Dl) := by
 unfold qa qj
 have h := bA (B := fun s => qj_B0 n s.1 s.2.1 s.2.2) (xs := l) (mk := fun i => (l, (aA l, (i : Int)))) (p := Dl) (found := fun i x => Sum.inl (i : Int)) (e := Sum.inr ())
  (fun i x hx => ?_) ?_ l.length 0 n (by omega) (by omega)
 ·rw [yl1] at h
  rcases h with ⟨h1, k, x, _, _, h2⟩ | ⟨h1, h2⟩
  ·rw [show qj_W0 n (l, (aA l, 0)) = some (Sum.inl (k : Int)) from h2, h1]
   show some (decide ((k : Int) ≥ 0)) = _
   rw [decide_eq_true (by omega)]
  ·rw [show qj_W0 n (l, (aA l, 0)) = some (Sum.inr ()) from h2, h1]
   rfl
 ·have hi := aN hx
  show qj_B0 n l (aA l) (i : Int) = _
  unfold qj_B0
  rw [aC, decide_eq_true (by omega), yg, aE, hx, ya, OL n x (z x (yj hx)) hn, ya, aH (by omega)]
  cases Dl x <;> rfl
 ·show qj_B0 n l (aA l) (l.length : Int) = _
  unfold qj_B0
  rw [aC, decide_eq_false (by omega), ye]
theorem cX {m : aW} (h : cN m = true) : m.funcs.length ≤ 8 ∧ m.imps.length ≤ 8 ∧ 1 ≤ m.funcs.length ∧ (∀ f ∈ m.funcs, (∀ i ∈ f.2.2.2.2, jB i = false) ∧ f.2.2.2.2.length ≤ 64 ∧ f.2.2.2.1.length ≤ 64 ∧ 1 ≤ f.2.2.2.2.length ∧ f.1.length ≤ 4) ∧ ∀ i ∈ m.imps, i.1.length ≤ 64 := by
 simp only [cN, yc, decide_eq_true_eq, yx] at h
 obtain ⟨_, _, H, h1, h2, K, J, _⟩ := h
 refine ⟨h1, K, H, fun f hf => ?_, fun i z => ?_⟩
 ·have hl := qU (h2 f hf)
  have A := h2 f hf
  simp only [oF, yc, yy, List.any_eq_false] at A
  exact ⟨fun i z => by simpa using A.2.2.2.2.2 i z, hl.2.2.2.1, by omega, hl.2.2.1, hl.1⟩
 ·have := (CQ (J i z)).1; omega
theorem ML (n : Nat) (m : aW) (V : Fh m) (hn : 200 ≤ n) : qdm n m.recs m.funcs m.imps m.ints m.texts = some (b9 m) := by
 unfold qdm b9
 rw [Mg n m V hn, ya]
 cases hf : cN m with
 | false => rfl
 | true =>
  obtain ⟨k1, k2, k3, K, U⟩ := cX hf
  rw [if_pos rfl]
  show ((qdm_W0 n ((m.funcs, (aA m.funcs, 0)), aJ m)).bind _) = _
  have h := dL (B := fun s => qdm_B0 n s.1.1 s.1.2.1 s.1.2.2 s.2.1 s.2.2.1 s.2.2.2.1 s.2.2.2.2.1 s.2.2.2.2.2) (xs := m.funcs) (mk := fun i (a : Unit) => ((m.funcs, (aA m.funcs, (i : Int))), aJ m)) (I := fun i a => (m.funcs.take i).any (qF m) = false)
   (Q := fun y => (m.funcs.any (qF m) = true ∧ ∃ z, y = Sum.inl (1, z)) ∨ (m.funcs.any (qF m) = false ∧ y = Sum.inr (aJ m))) (fun i a x hx hI => ?_) (fun a hI => ?_) m.funcs.length 0 n () (by omega) rfl (by omega)
  ·obtain ⟨y, h1, h2⟩ := h
   rw [show qdm_W0 n ((m.funcs, (aA m.funcs, 0)), aJ m) = some y from h1, ya]
   rcases h2 with ⟨J, z, rfl⟩ | ⟨J, rfl⟩
   ·rw [J]; rfl
   ·rw [J]
    show ((qa n m.imps).bind _) = _
    rw [My n m.imps U (by omega) (by omega), ya]
    cases m.imps.any Dl <;> rfl
  ·have hi := aN hx
   have hm := yj hx
   obtain ⟨O, N, M, _⟩ := K x hm
   have H : qdm_B0 n m.funcs (aA m.funcs) (i : Int) m.recs m.funcs m.imps m.ints m.texts = (if qF m x = true then some (Sum.inr (Sum.inl (1, (aJ m, x)))) else some (Sum.inl ((m.funcs, (aA m.funcs, ((i + 1 : Nat) : Int))), aJ m))) := by
    unfold qdm_B0 qF
    rw [aC, decide_eq_true (by omega), yg, aE, hx, ya, LD n m x O N (by omega), ya]
    cases x.2.2.2.2.any fun i => !iU m x i with
    | true => rfl
    | false =>
     show ((qe n x.2.2.2.1).bind _) = _
     rw [OC n x.2.2.2.1 M (by omega), ya, aH (by omega)]
     cases x.2.2.2.1.any fun t => t.1 == 5 <;> rfl
   by_cases A : qF m x = true
   ·rw [if_pos A] at H
    exact .inr ⟨_, H, .inl ⟨List.any_eq_true.2 ⟨x, hm, A⟩, _, rfl⟩⟩
   ·rw [if_neg A] at H
    refine .inl ⟨(), H, ?_⟩
    rw [yv2, hx, List.any_append, hI]
    simpa using A
  ·rw [yf2] at hI
   refine ⟨_, ?_, .inr ⟨hI, rfl⟩⟩
   show qdm_B0 n m.funcs (aA m.funcs) (m.funcs.length : Int) m.recs m.funcs m.imps m.ints m.texts = _
   unfold qdm_B0
   rw [aC, decide_eq_false (by omega), ye]
end Sx
end
section
namespace Sx
open Go Go.Ab
theorem GB (n : Nat) (m : aW) (f : iT) (z : Int) (A : ∀ i ∈ f.2.2.2.2, jB i = false) (hl : f.2.2.2.2.length ≤ 64) (hn : 100 ≤ n) :
  ∃ y, qcj_W2 n ((z, 0), (aJ m, f)) = some y ∧ ((f.2.2.2.2.any (fun i => !iU m f i) = true ∧ y = Sum.inl (1, (aJ m, f))) ∨ (f.2.2.2.2.any (fun i => !iU m f i) = false ∧ y = Sum.inr (z, (aJ m, f)))) := by
 have h := bA (B := fun s => qcj_B2 n s.1.1 s.1.2 s.2.1.1 s.2.1.2.1 s.2.1.2.2.1 s.2.1.2.2.2.1 s.2.1.2.2.2.2 s.2.2.1 s.2.2.2.1 s.2.2.2.2.1 s.2.2.2.2.2.1 s.2.2.2.2.2.2) (xs := f.2.2.2.2) (mk := fun i => ((z, (i : Int)), (aJ m, f)))
  (p := fun i => !iU m f i) (found := fun i x => Sum.inl (1, (aJ m, f))) (e := Sum.inr (z, (aJ m, f))) (fun i x hx => ?_) ?_ f.2.2.2.2.length 0 n (by omega) (by omega)
 ·rw [yl1] at h
  rcases h with ⟨h1, k, x, _, _, h2⟩ | ⟨h1, h2⟩
  ·exact ⟨_, h2, .inl ⟨h1, rfl⟩⟩
  ·exact ⟨_, h2, .inr ⟨h1, rfl⟩⟩
 ·have hi := aN hx
  show qcj_B2 n z (i : Int) m.recs m.funcs m.imps m.ints m.texts f.1 f.2.1 f.2.2.1 f.2.2.2.1 f.2.2.2.2 = _
  unfold qcj_B2
  rw [aC, decide_eq_true (by omega), yg, aE, hx, ya, IA n m f x (A x (yj hx)), ya, aH (by omega)]
  cases iU m f x <;> rfl
 ·show qcj_B2 n z (f.2.2.2.2.length : Int) m.recs m.funcs m.imps m.ints m.texts f.1 f.2.1 f.2.2.1 f.2.2.2.1 f.2.2.2.2 = _
  unfold qcj_B2
  rw [aC, decide_eq_false (by omega), ye]
theorem Dz (n : Nat) (m : aW) (f : iT) (z : Int) (hl : f.2.2.2.1.length ≤ 64) (hn : 100 ≤ n) :
  ∃ y, qcj_W4 n ((z, 0), (aJ m, f)) = some y ∧ ((f.2.2.2.1.any (fun t => t.1 == 5) = true ∧ y = Sum.inl (1, (aJ m, f))) ∨ (f.2.2.2.1.any (fun t => t.1 == 5) = false ∧ y = Sum.inr (z, (aJ m, f)))) := by
 have h := bA (B := fun s => qcj_B4 n s.1.1 s.1.2 s.2.1.1 s.2.1.2.1 s.2.1.2.2.1 s.2.1.2.2.2.1 s.2.1.2.2.2.2 s.2.2.1 s.2.2.2.1 s.2.2.2.2.1 s.2.2.2.2.2.1 s.2.2.2.2.2.2) (xs := f.2.2.2.1) (mk := fun i => ((z, (i : Int)), (aJ m, f)))
  (p := fun t => t.1 == 5) (found := fun i x => Sum.inl (1, (aJ m, f))) (e := Sum.inr (z, (aJ m, f))) (fun i x hx => ?_) ?_ f.2.2.2.1.length 0 n (by omega) (by omega)
 ·rw [yl1] at h
  rcases h with ⟨h1, k, x, _, _, h2⟩ | ⟨h1, h2⟩
  ·exact ⟨_, h2, .inl ⟨h1, rfl⟩⟩
  ·exact ⟨_, h2, .inr ⟨h1, rfl⟩⟩
 ·have hi := aN hx
  show qcj_B4 n z (i : Int) m.recs m.funcs m.imps m.ints m.texts f.1 f.2.1 f.2.2.1 f.2.2.2.1 f.2.2.2.2 = _
  unfold qcj_B4
  rw [aC, decide_eq_true (by omega), yg, aE, hx, ya, aH (by omega)]
  cases x.1 == 5 <;> rfl
 ·show qcj_B4 n z (f.2.2.2.1.length : Int) m.recs m.funcs m.imps m.ints m.texts f.1 f.2.1 f.2.2.1 f.2.2.2.1 f.2.2.2.2 = _
  unfold qcj_B4
  rw [aC, decide_eq_false (by omega), ye]
theorem Gx (n : Nat) (m : aW) (k : Nat) (i : Mw) (z : m.imps[k]? = some i) (ok : Bool) (hl : i.1.length ≤ 64) (hn : 100 ≤ n) :
  qcj_W8 n (((k : Int), (ok, 0)), aJ m) = some (((k : Int), ok && i.1.all jK), aJ m) := by
 have h := AF (B := fun s => qcj_B8 n s.1.1 s.1.2.1 s.1.2.2 s.2.1 s.2.2.1 s.2.2.2.1 s.2.2.2.2.1 s.2.2.2.2.2) (xs := i.1) (mk := fun j (a : Bool) => (((k : Int), (a, (j : Int))), aJ m)) (f := fun a t => a && jK t) (e := fun a => (((k : Int), a), aJ m)) (I := fun _ _ => True)
  (fun j a x hx _ => ⟨?_, trivial⟩) (fun a _ => ?_) i.1.length 0 n ok (by omega) trivial (by omega)
 ·rw [yl1] at h
  have e : ∀ (l : List cQ) (b : Bool), l.foldl (fun a t => a && jK t) b = (b && l.all jK) := by
   intro l
   induction l with
   | nil => intro b; simp
   | cons x l A => intro b; rw [List.foldl_cons, A, ye3, Bool.and_assoc]
  rw [e] at h
  exact h.1
 ·have hj := aN hx
  show qcj_B8 n (k : Int) a (j : Int) m.recs m.funcs m.imps m.ints m.texts = _
  unfold qcj_B8
  rw [aE, z, ya, aC, decide_eq_true (by omega), yg, ya, aE, hx, ya, aH (by omega)]
  cases a with
  | false => rfl
  | true =>
   show ((qcu n x.1 x.2).bind _) = _
   rw [show qcu n x.1 x.2 = some (jK x) from Ck n x]
   rfl
 ·show qcj_B8 n (k : Int) a (i.1.length : Int) m.recs m.funcs m.imps m.ints m.texts = _
  unfold qcj_B8
  rw [aE, z, ya, aC, decide_eq_false (by omega), ye]
theorem HC (n : Nat) (m : aW) (ho : Fh m) (hL : oY m) (hn : 6000 ≤ n) : qcj n m.recs m.funcs m.imps m.ints m.texts = some (b9 m) := by
 unfold qcj b9
 obtain ⟨b, e1, _⟩ := Gk n m ho hL hn
 rw [e1, ya]
 cases hf : cN m with
 | false => rfl
 | true =>
  obtain ⟨k1, k2, k3, W, k5⟩ := cX hf
  show ((qcj_W0 n (0, aJ m)).bind _) = _
  have h := dL (B := fun s => qcj_B0 n s.1 s.2.1 s.2.2.1 s.2.2.2.1 s.2.2.2.2.1 s.2.2.2.2.2) (xs := m.funcs) (mk := fun i (a : Unit) => ((i : Int), aJ m)) (I := fun i a => (m.funcs.take i).any (qF m) = false)
   (Q := fun y => (m.funcs.any (qF m) = true ∧ ∃ z, y = Sum.inl (1, z)) ∨ (m.funcs.any (qF m) = false ∧ y = Sum.inr (aJ m))) (fun i a x hx hI => ?_) (fun a hI => ?_) m.funcs.length 0 n () (by omega) rfl (by omega)
  ·obtain ⟨y, h1, h2⟩ := h
   rw [show qcj_W0 n (0, aJ m) = some y from h1, ya]
   rcases h2 with ⟨O, z, rfl⟩ | ⟨O, rfl⟩
   ·rw [O]; rfl
   ·rw [O]
    show ((qcj_W6 n (0, aJ m)).bind _) = _
    have V := bA (B := fun s => qcj_B6 n s.1 s.2.1 s.2.2.1 s.2.2.2.1 s.2.2.2.2.1 s.2.2.2.2.2) (xs := m.imps) (mk := fun i => ((i : Int), aJ m)) (p := Dl) (found := fun i x => Sum.inl (1, aJ m)) (e := Sum.inr (aJ m))
     (fun i x hx => ?_) ?_ m.imps.length 0 n (by omega) (by omega)
    ·rw [yl1] at V
     rcases V with ⟨M, k, x, _, _, K⟩ | ⟨M, K⟩
     ·rw [show qcj_W6 n (0, aJ m) = _ from K, M]; rfl
     ·rw [show qcj_W6 n (0, aJ m) = _ from K, M]; rfl
    ·have hi := aN hx
     show qcj_B6 n (i : Int) m.recs m.funcs m.imps m.ints m.texts = _
     unfold qcj_B6
     rw [aC, decide_eq_true (by omega), yg, aE, hx, ya, show qcu n x.2.1 x.2.2 = some (jK (x.2.1, x.2.2)) from Ck n (x.2.1, x.2.2), ya]
     show ((qcj_W8 n (((i : Int), (jK (x.2.1, x.2.2), 0)), aJ m)).bind _) = _
     rw [Gx n m i x hx _ (k5 x (yj hx)) (by omega), ya]
     simp only []
     rw [aH (by omega)]
     have : (!(jK (x.2.1, x.2.2) && x.1.all jK)) = Dl x := by
      unfold Dl
      rw [Bool.not_and, ← s1 jK, Bool.not_not]
     rw [this]
     cases Dl x <;> rfl
    ·show qcj_B6 n (m.imps.length : Int) m.recs m.funcs m.imps m.ints m.texts = _
     unfold qcj_B6
     rw [aC, decide_eq_false (by omega), ye]
  ·have hi := aN hx
   have hm := yj hx
   obtain ⟨M, K, Y, _⟩ := W x hm
   obtain ⟨y, hy, J⟩ := GB n m x (i : Int) M K (by omega)
   obtain ⟨z, Z, H⟩ := Dz n m x (i : Int) Y (by omega)
   have A : ∀ s, qcj_B0 n (i : Int) m.recs m.funcs m.imps m.ints m.texts = s → (fun s => qcj_B0 n s.1 s.2.1 s.2.2.1 s.2.2.2.1 s.2.2.2.2.1 s.2.2.2.2.2) ((i : Int), aJ m) = s := fun s h => h
   unfold qcj_B0 at A
   rw [aC, decide_eq_true (by omega), yg, aE, hx, ya, show qcj_W2 n (((i : Int), 0), ((m.recs, (m.funcs, (m.imps, (m.ints, m.texts)))), (x.1, (x.2.1, (x.2.2.1, (x.2.2.2.1, x.2.2.2.2)))))) = _ from hy, ya] at A
   rcases J with ⟨N, rfl⟩ | ⟨N, rfl⟩
   ·refine .inr ⟨_, A _ rfl, .inl ⟨List.any_eq_true.2 ⟨x, hm, ?_⟩, _, rfl⟩⟩
    unfold qF; rw [N]; rfl
   ·simp only [] at A
    rw [show qcj_W4 n (((i : Int), 0), ((m.recs, (m.funcs, (m.imps, (m.ints, m.texts)))), (x.1, (x.2.1, (x.2.2.1, (x.2.2.2.1, x.2.2.2.2)))))) = _ from Z, ya] at A
    rcases H with ⟨U, rfl⟩ | ⟨U, rfl⟩
    ·refine .inr ⟨_, A _ rfl, .inl ⟨List.any_eq_true.2 ⟨x, hm, ?_⟩, _, rfl⟩⟩
     unfold qF; rw [N, U]; rfl
    ·simp only [] at A
     rw [aH (by omega)] at A
     refine .inl ⟨(), A _ rfl, ?_⟩
     rw [yv2, hx, List.any_append, hI]
     have : qF m x = false := by unfold qF; rw [N, U]; rfl
     simpa using this
  ·rw [yf2] at hI
   refine ⟨_, ?_, .inr ⟨hI, rfl⟩⟩
   show qcj_B0 n (m.funcs.length : Int) m.recs m.funcs m.imps m.ints m.texts = _
   unfold qcj_B0
   rw [aC, decide_eq_false (by omega), ye]
noncomputable def mI (m : aW) : Bool := b9 m == 0 && match m.funcs with
 | [] => false
 | f :: _ => decide (f.1.length = 0) && f.2.1 == 1
theorem w5 {m : aW} (h : b9 m = 0) : ∃ f r, m.funcs = f :: r := by
 unfold b9 at h
 cases hf : cN m with
 | false => rw [hf] at h; cases h
 | true =>
  have := (cX hf).2.2.1
  cases hm : m.funcs with
  | nil => rw [hm] at this; simp at this
  | cons f r => exact ⟨f, r, rfl⟩
theorem FC (m : aW) (x : Option Int) (hx : x = some (b9 m)) :
  (x.bind fun r => bif r == 0 then (aD m.funcs 0).bind fun z => bif aA z.1 == 0 then (aD m.funcs 0).bind fun H => some (H.2.1 == 1) else some false else some false) = some (mI m) := by
 rw [hx, ya]
 unfold mI
 cases A : b9 m == 0 with
 | false => rfl
 | true =>
  obtain ⟨f, r, hm⟩ := w5 (eq_of_beq A)
  rw [hm]
  show (bif aA f.1 == 0 then some (f.2.1 == 1) else some false) = some (true && (decide (f.1.length = 0) && f.2.1 == 1))
  rw [aC]
  by_cases h : f.1.length = 0
  ·rw [show ((f.1.length : Int) == 0) = true by rw [h]; rfl, decide_eq_true h]
   simp
  ·rw [show ((f.1.length : Int) == 0) = false by rw [beq_eq_false_iff_ne]; omega, decide_eq_false h]
   simp
theorem Kx (n : Nat) (m : aW) (h : Fh m) (hn : 200 ≤ n) : qeb n m.recs m.funcs m.imps m.ints m.texts = some (mI m) := FC m _ (ML n m h hn)
theorem v3 (n : Nat) (m : aW) (h : Fh m) (hL : oY m) (hn : 6000 ≤ n) : qdn n m.recs m.funcs m.imps m.ints m.texts = some (mI m) := FC m _ (HC n m h hL hn)
end Sx
end
section
namespace Sx
open Go Go.Ab
theorem nE {α : Type} {s : List α} (h : 1 ≤ s.length) : ∃ r x, s = r ++ [x] := by
 refine ⟨s.dropLast, s.getLast (by intro e; rw [e] at h; simp at h), ?_⟩
 rw [List.dropLast_concat_getLast]
theorem CA {α : Type} {s : List α} (h : 2 ≤ s.length) : ∃ r x y, s = r ++ [x, y] := by
 obtain ⟨r, y, rfl⟩ := nE (s := s) (by omega)
 obtain ⟨q, x, rfl⟩ := nE (s := r) (by simp at h; omega)
 exact ⟨q, x, y, by simp⟩
theorem cR (r l : List (Int × Int)) (k j : Nat) (hl : r.length + l.length ≤ 1000000) (hj : k = l.length - j) (h1 : 1 ≤ k) (hk : k ≤ l.length) : aD (r ++ l) (a8 .i64 (aA (r ++ l)) (k : Int)) = l[l.length - k]? := by
 have h : a8 .i64 (aA (r ++ l)) (k : Int) = ((r.length + (l.length - k) : Nat) : Int) := by
  rw [aC, yi, bV (by omega) (by omega)]; omega
 rw [h, aE, yt (by omega)]
 congr 1
 omega
theorem MN (n : Nat) (m : aW) (f : iT) (x y : Int) (s : List cQ) (H : s.length ≤ 1000) :
  qer n m.recs m.funcs m.imps m.ints m.texts f.1 f.2.1 f.2.2.1 f.2.2.2.1 f.2.2.2.2 6 x y s = (qda n m.recs m.funcs m.imps m.ints m.texts f.1 f.2.1 f.2.2.1 f.2.2.2.1 f.2.2.2.2 6 x y s).map fun r => ((r.1, r.2.1), r.2.2) := by
 simp only [qer, qdv, qda, qct, Int.reduceBEq, ye, yg, ya]
 by_cases h : 1 ≤ s.length
 ·obtain ⟨r, t, rfl⟩ := nE h
  rw [yi, yz1] at H
  have A := cR r [t] 1 0 (by simp; omega) rfl (by omega) (by simp)
  have A : aD (r ++ [t]) (a8 .i64 (aA (r ++ [t])) 1) = some t := A
  have z : a8 .i64 (aA (r ++ [t])) 1 = ((r.length : Nat) : Int) := by
   rw [aC, yi, bV (by simp <;> omega) (by simp <;> omega)]; simp
  rw [A, z, aC, yi, yz1, decide_eq_true (by omega), decide_eq_false (by omega), decide_eq_true (by omega), decide_eq_true (by omega)]
  simp only [yg, ye, ya, yd2, yo, yb1]
  rw [yb3 (by simp), yo3]
 ·rw [aC, decide_eq_false (by omega), decide_eq_true (by omega)]
  rfl
theorem Mh (n : Nat) (m : aW) (f : iT) (x y : Int) (s : List cQ) (J : s.length ≤ 1000) :
  qer n m.recs m.funcs m.imps m.ints m.texts f.1 f.2.1 f.2.2.1 f.2.2.2.1 f.2.2.2.2 7 x y s = (qda n m.recs m.funcs m.imps m.ints m.texts f.1 f.2.1 f.2.2.1 f.2.2.2.1 f.2.2.2.2 7 x y s).map fun r => ((r.1, r.2.1), r.2.2) := by
 simp only [qer, qdv, qda, qct, Int.reduceBEq, ye, yg, ya]
 by_cases h : 2 ≤ s.length
 ·obtain ⟨r, t, u, rfl⟩ := CA h
  rw [yi] at J
  simp only [ye1, yd3] at J
  have A : aD (r ++ [t, u]) (a8 .i64 (aA (r ++ [t, u])) 1) = some u := cR r [t, u] 1 1 (by simp; omega) rfl (by omega) (by simp)
  have H : aD (r ++ [t, u]) (a8 .i64 (aA (r ++ [t, u])) 2) = some t := cR r [t, u] 2 0 (by simp; omega) rfl (by omega) (by simp)
  have z : a8 .i64 (aA (r ++ [t, u])) 2 = ((r.length : Nat) : Int) := by
   rw [aC, yi, bV (by simp <;> omega) (by simp <;> omega)]; simp
  rw [A, H, z, aC, yi]
  simp only [ye1, yd3]
  rw [decide_eq_true (by omega), decide_eq_false (by omega), decide_eq_true (by omega), decide_eq_true (by omega)]
  simp only [yg, ye, ya, yd2, yo, yb1]
  rw [yb3 (by simp), yo3]
 ·rw [aC, decide_eq_false (by omega), decide_eq_true (by omega)]
  rfl
theorem J5 (n : Nat) (m : aW) (f : iT) (x y : Int) (s : List cQ) (J : s.length ≤ 1000) :
  qer n m.recs m.funcs m.imps m.ints m.texts f.1 f.2.1 f.2.2.1 f.2.2.2.1 f.2.2.2.2 41 x y s = (qda n m.recs m.funcs m.imps m.ints m.texts f.1 f.2.1 f.2.2.1 f.2.2.2.1 f.2.2.2.2 41 x y s).map fun r => ((r.1, r.2.1), r.2.2) := by
 simp only [qer, qdv, qda, qct, Int.reduceBEq, ye, yg, ya]
 by_cases h : 1 ≤ s.length
 ·obtain ⟨r, t, rfl⟩ := nE h
  rw [yi, yz1] at J
  have K : aD (r ++ [t]) (a8 .i64 (aA (r ++ [t])) 1) = some t := cR r [t] 1 0 (by simp; omega) rfl (by omega) (by simp)
  have z : a8 .i64 (aA (r ++ [t])) 1 = ((r.length : Nat) : Int) := by
   rw [aC, yi, bV (by simp <;> omega) (by simp <;> omega)]; simp
  rw [K, z, aC, yi, yz1, decide_eq_true (by omega), decide_eq_false (by omega), decide_eq_true (by omega), decide_eq_true (by omega)]
  simp only [yg, ye, ya, yd2, yo, yb1]
  rw [yb3 (by simp), yo3]
  obtain ⟨A, t2⟩ := t
  by_cases H : A = 5
  ·subst H; rfl
  ·rw [show (A == 5) = false from beq_eq_false_iff_ne.2 H, show (A != 5) = true from bne_iff_ne.2 H]; rfl
 ·rw [aC, decide_eq_false (by omega), decide_eq_true (by omega)]
  rfl
theorem Oj (n : Nat) (m : aW) (f : iT) (i : B0) (s : List cQ) (h : jB i = false) (hl : f.1.length + f.2.2.2.1.length ≤ 1000) (z : s.length ≤ 1000) :
  qer n m.recs m.funcs m.imps m.ints m.texts f.1 f.2.1 f.2.2.1 f.2.2.2.1 f.2.2.2.2 i.1 i.2.1 i.2.2 s = (qda n m.recs m.funcs m.imps m.ints m.texts f.1 f.2.1 f.2.2.1 f.2.2.2.1 f.2.2.2.2 i.1 i.2.1 i.2.2 s).map fun r => ((r.1, r.2.1), r.2.2) := by
 unfold jB at h
 have h := of_decide_eq_false h
 have H := rH (op := i.1) (by omega)
 obtain ⟨op, x, y⟩ := i
 have A : op = 0 ∨ op = 1 ∨ op = 2 ∨ op = 3 ∨ op = 4 ∨ op = 5 ∨ op = 6 ∨ op = 7 ∨ op = 8 ∨ op = 9 ∨ op = 10 ∨ op = 11 ∨ op = 12 ∨ op = 13 ∨ op = 14 ∨ op = 15 ∨ op = 16 ∨ op = 17 ∨ op = 18 ∨ op = 19 ∨ op = 20 ∨ op = 21 ∨ op = 22 ∨ op = 23 ∨ op = 24 ∨ op = 25 ∨ op = 26 ∨ op = 27 ∨ op = 28 ∨ op = 29 ∨ op = 30 ∨ op = 31 ∨ op = 32 ∨ op = 33 ∨ op = 34 ∨ op = 35 ∨ op = 36 ∨ op = 37 ∨ op = 38 ∨ op = 39 ∨ op = 40 ∨ op = 41 := by simp only at H; omega
 rcases A with rfl | rfl | rfl | rfl | rfl | rfl | rfl | rfl | rfl | rfl | rfl | rfl | rfl | rfl | rfl | rfl | rfl | rfl | rfl | rfl | rfl | rfl | rfl | rfl | rfl | rfl | rfl | rfl | rfl | rfl | rfl | rfl | rfl | rfl | rfl | rfl | rfl | rfl | rfl | rfl | rfl | rfl
 ·rfl
 ·rfl
 ·rfl
 ·simp only [qer, qdc, qdq, qda, qct, Int.reduceBEq, ye, yg, ya, ge_iff_le, Int.reduceLE, decide_false, qcw_eq n f.1 f.2.1 f.2.2.1 f.2.2.2.1 f.2.2.2.2 x (by omega), iP n f.1 f.2.1 f.2.2.1 f.2.2.2.1 f.2.2.2.2 x (by omega), yo, yg2]
 ·simp only [qer, qdc, qdq, qda, qct, Int.reduceBEq, ye, yg, ya, ge_iff_le, Int.reduceLE, decide_false, qcw_eq n f.1 f.2.1 f.2.2.1 f.2.2.2.1 f.2.2.2.2 x (by omega), iP n f.1 f.2.1 f.2.2.1 f.2.2.2.1 f.2.2.2.2 x (by omega), yo, yg2]
 ·rfl
 ·exact MN n m f x y s z
 ·exact Mh n m f x y s z
 ·rfl
 ·rfl
 ·rfl
 ·rfl
 ·rfl
 ·rfl
 ·rfl
 ·rfl
 ·rfl
 ·rfl
 ·rfl
 ·rfl
 ·rfl
 ·rfl
 ·rfl
 ·rfl
 ·rfl
 ·simp only [qer, qdc, qdq, qda, qct, Int.reduceBEq, ye, yg, ya, ge_iff_le, Int.reduceLE, decide_false, decide_true]
  cases aD m.funcs x <;> rfl
 ·rfl
 ·simp only [qer, qdc, qdq, qda, qct, Int.reduceBEq, ye, yg, ya, ge_iff_le, Int.reduceLE, decide_false, decide_true]
  cases aD m.imps x <;> rfl
 ·simp only [qer, qdc, qdq, qda, qct, Int.reduceBEq, ye, yg, ya, ge_iff_le, Int.reduceLE, decide_false, decide_true]
  cases aD m.recs x <;> rfl
 ·simp only [qer, qdc, qdq, qda, qct, Int.reduceBEq, ye, yg, ya, ge_iff_le, Int.reduceLE, decide_false, decide_true]
  cases aD m.recs x with
  | none => rfl
  | some l => simp only [ya]; cases aD l y <;> rfl
 ·simp only [qer, qdc, qdq, qda, qct, Int.reduceBEq, ye, yg, ya, ge_iff_le, Int.reduceLE, decide_false, decide_true]
  cases aD m.recs x with
  | none => rfl
  | some l => simp only [ya]; cases aD l y <;> rfl
 ·rfl
 ·rfl
 ·rfl
 ·rfl
 ·rfl
 ·rfl
 ·rfl
 ·rfl
 ·rfl
 ·rfl
 ·exact J5 n m f x y s z
end Sx
end
section
namespace Sx
open Go Go.Ab
theorem OE (n : Nat) (s : List cQ) : qdx n s = some s := by
 unfold qdx
 rw [aC, decide_eq_true (by omega), decide_eq_true (by omega), decide_eq_true (by omega), yb1, yf2]
 rfl
theorem O2 (n k : Nat) (hk : k ≤ 1000) : qeh n (k : Int) = if k = 0 then some (Sum.inr ()) else some (Sum.inl ((0, 0), List.replicate k (0, 0))) := by
 unfold qeh
 rw [decide_eq_false (by omega), ye, bV (by omega) (by omega)]
 by_cases h : k = 0
 ·subst h; rfl
 ·have e : (k : Int) - 0 = (k : Int) := by omega
  rw [if_neg h, e, decide_eq_true (by omega), yg, yb1, decide_eq_true (by omega), show Nat.ble k 4294967296 = true from by rw [Nat.ble_eq]; omega]
  simp only [yd2, yg]
  rw [decide_eq_true (by omega)]; rfl
theorem Id (n : Nat) (a b : List cQ) (ha : a.length ≤ 300) (hb : b.length ≤ 300) (hn : 10 ≤ n) : qci_W0 n ([a, b], (0, ([a, b], (aA [a, b], 0)))) = some ([a, b], ((a.length + b.length : Nat) : Int)) := by
 obtain ⟨m, rfl⟩ : ∃ m, n = m + 3 := ⟨n - 3, by omega⟩
 have h : qci_B0 (m + 3) [a, b] 0 [a, b] 2 0 = some (Sum.inl ([a, b], ((a.length : Int), ([a, b], ((2 : Int), (1 : Int)))))) := by
  unfold qci_B0
  rw [show (decide ((0 : Int) < 2)) = true from rfl, yg, show aD [a, b] 0 = some a from rfl, ya, aC, cK (by omega) (by omega), decide_eq_false (by omega), ye, show aI .i64 0 1 = 1 from rfl]
  simp
 have h1 : qci_B0 (m + 3) [a, b] (a.length : Int) [a, b] 2 1 = some (Sum.inl ([a, b], (((a.length + b.length : Nat) : Int), ([a, b], ((2 : Int), (2 : Int)))))) := by
  unfold qci_B0
  rw [show (decide ((1 : Int) < 2)) = true from rfl, yg, show aD [a, b] 1 = some b from rfl, ya, aC, cK (by omega) (by omega), decide_eq_false (by omega), ye, show aI .i64 1 1 = 2 from rfl]
  simp
 exact (bM (B := fun s => qci_B0 (m + 3) s.1 s.2.1 s.2.2.1 s.2.2.2.1 s.2.2.2.2) (s := ([a, b], ((0 : Int), ([a, b], ((2 : Int), (0 : Int)))))) h).trans ((bM (B := fun s => qci_B0 (m + 3) s.1 s.2.1 s.2.2.1 s.2.2.2.1 s.2.2.2.2) (s := ([a, b], ((a.length : Int), ([a, b], ((2 : Int), (1 : Int)))))) h1).trans (bG rfl))
theorem JY (n : Nat) (a b m0 : List cQ) (hb : b.length ≤ 300) (hm : m0.length ≤ 1000) : qci_B2x1q1 n [a, b] 2 1 m0 = some (Sum.inl (Sum.inr (Sum.inl (([a, b], ((2 : Int), (2 : Int))), m0 ++ b)))) := by
 unfold qci_B2x1q1
 rw [show (decide ((1 : Int) < 2)) = true from rfl, yg, show aD [a, b] 1 = some b from rfl, ya, aU (by rw [yi]; omega), yg]
 rfl
theorem A8 (n k : Nat) (a b m0 : List cQ) (h : b.length ≤ 300) (hm : m0.length ≤ 1000) : aK (qci_M2x1 n) (k + 2) (Sum.inr (Sum.inl (([a, b], ((2 : Int), (1 : Int))), m0))) = some (Sum.inr (Sum.inl (m0 ++ b))) :=
 (bM (JY n a b m0 h hm)).trans (bG rfl)
theorem FZ (n : Nat) (a b : List cQ) (A : a.length ≤ 300) (z : b.length ≤ 300) (hn : 10 ≤ n) : qci n [a, b] = some (Sum.inr (a ++ b)) := by
 unfold qci
 rw [Id n a b A z hn, ya]
 simp only
 rw [O2 n _ (by omega), show aA [a, b] = 2 from rfl]
 obtain ⟨m, rfl⟩ : ∃ m, n = m + 3 := ⟨n - 3, by omega⟩
 by_cases h : a.length + b.length = 0
 ·rw [if_pos h, ya]
  have h1 : qci_W2x1 (m + 3) (Sum.inr (Sum.inr ([a, b], ((2 : Int), (0 : Int))))) = some (Sum.inr (Sum.inl (a ++ b))) := by
   refine (bM (B := qci_M2x1 (m + 3)) (s' := Sum.inr (Sum.inl (([a, b], ((2 : Int), (1 : Int))), a))) ?_).trans (A8 (m + 3) m a b a z (by omega))
   show qci_B2x1q2 (m + 3) [a, b] 2 0 = _
   unfold qci_B2x1q2
   rw [show (decide ((0 : Int) < 2)) = true from rfl, yg, show aD [a, b] 0 = some a from rfl, ya, aU (by omega), yg]
   rfl
  show ((qci_W2x1 (m + 3) (Sum.inr (Sum.inr ([a, b], ((2 : Int), (0 : Int)))))).bind _) = _
  rw [h1]; rfl
 ·rw [if_neg h, ya]
  have h1 : qci_W2x1 (m + 3) (Sum.inl (((0, 0), ([a, b], ((2 : Int), (0 : Int)))), List.replicate (a.length + b.length) (0, 0))) = some (Sum.inr (Sum.inl (a ++ b))) := by
   refine (bM (B := qci_M2x1 (m + 3)) (s' := Sum.inr (Sum.inl (([a, b], ((2 : Int), (1 : Int))), a))) ?_).trans (A8 (m + 3) m a b a z (by omega))
   show qci_B2x1q0 (m + 3) (0, 0) [a, b] 2 0 (List.replicate (a.length + b.length) (0, 0)) = _
   unfold qci_B2x1q0
   rw [show (decide ((0 : Int) < 2)) = true from rfl, yg, show aD [a, b] 0 = some a from rfl, ya]
   simp only [List.take_zero, List.nil_append, Nat.beq, yg]
   rw [show Nat.ble (0 + 0) (List.length (List.replicate (a.length + b.length) ((0 : Int), (0 : Int)))) = true from (by rw [Nat.ble_eq]; omega), yg, aU (by omega), yg]
   rfl
  show ((qci_W2x1 (m + 3) (Sum.inl (((0, 0), ([a, b], ((2 : Int), (0 : Int)))), List.replicate (a.length + b.length) (0, 0)))).bind _) = _
  rw [h1]; rfl
abbrev FR := List cQ × List Int × Int
def Jl (s inn : List cQ) : Bool := (inn.zip (s.drop (s.length - inn.length))).all fun q => gG q.2 q.1
def Jb (i : B0) (pc : Int) : List Int := if i.1 = 26 then [] else if i.1 = 23 then [i.2.1] else if i.1 = 24 then [pc + 1, i.2.1] else [pc + 1]
def mU (f : iT) (i : B0) (pc : Int) (s : List cQ) (r : List cQ × List cQ × Bool) : FR :=
 if r.2.2 = false ∨ s.length < r.1.length ∨ s.length - r.1.length + r.2.1.length > 8 ∨ Jl s r.1 = false then ([], [], 4) else
 if i.1 ≠ 26 ∧ i.1 ≠ 23 ∧ pc + 1 ≥ (f.2.2.2.2.length : Int) then ([], [], 1) else (s.take (s.length - r.1.length) ++ r.2.1, Jb i pc, 0)
theorem Fo {S X : Type} (h : List cQ) (s : List cQ) (hl : h.length ≤ s.length) {B : S → Option (S ⊕ X)} {mk : Nat → S} {found : Nat → cQ → cQ → X} {e : X}
  (H : ∀ i x y, h[i]? = some x → s[s.length - h.length + i]? = some y → B (mk i) = (if gG y x = true then some (.inl (mk (i + 1))) else some (.inr (found i x y))))
  (A : B (mk h.length) = some (.inr e)) (n : Nat) (hn : h.length < n) :
  (Jl s h = true ∧ aK B n (mk 0) = some e) ∨ (Jl s h = false ∧ ∃ i x y, aK B n (mk 0) = some (found i x y)) :=
 loop_two (p := fun x y => gG y x) (by rw [List.length_drop]; omega) (fun i x y hx z => H i x y hx (by rw [yd1] at z; exact z)) A n hn
theorem qed_eq (n : Nat) (m : aW) (O pk : Nat) (f : iT) (i : B0) (s : List cQ) (r : List cQ × List cQ × Bool) (hf : m.funcs[O]? = some f) (N : f.2.2.2.2[pk]? = some i) (hb : jB i = false) (hl : f.1.length + f.2.2.2.1.length ≤ 200)
  (Y : qda n m.recs m.funcs m.imps m.ints m.texts f.1 f.2.1 f.2.2.1 f.2.2.2.1 f.2.2.2.2 i.1 i.2.1 i.2.2 s = some r) (hs : s.length ≤ 200) (h1 : r.1.length ≤ 200) (h2 : r.2.1.length ≤ 200) (hp : pk ≤ 200) (hc : f.2.2.2.2.length ≤ 200)
  (Z : i.1 = 23 → i.2.1 < (f.2.2.2.2.length : Int)) (hn : 1000 ≤ n) : qed n m.recs m.funcs m.imps m.ints m.texts (O : Int) (pk : Int) s = some (mU f i (pk : Int) s r) := by
 unfold qed mU
 rw [aE, hf, ya, aE, N, ya, Oj n m f i s hb (by omega) (by omega), Y, yo, ya]
 obtain ⟨h, out, ok⟩ := r
 simp only at h1 h2 ⊢
 cases ok with
 | false => rw [if_pos (.inl rfl)]; rfl
 | true =>
  rw [aC, aC, aC]
  simp only [yw, ye, Bool.true_eq_false, false_or]
  by_cases h3 : s.length < h.length
  ·rw [if_pos (.inl h3), bV (by omega) (by omega), decide_eq_true (by omega)]; rfl
  ·have M : a8 .i64 (s.length : Int) (h.length : Int) = ((s.length - h.length : Nat) : Int) := by rw [bV (by omega) (by omega)]; omega
   rw [M, decide_eq_false (by omega), ye, cK (by omega) (by omega)]
   by_cases h4 : s.length - h.length + out.length > 8
   ·rw [if_pos (.inr (.inl h4)), decide_eq_true (by omega)]; rfl
   ·rw [decide_eq_false (by omega), ye]
    have hL := Fo h s (by omega) (B := fun q => qed_B0 n q.1.1 q.1.2.1 q.1.2.2.1 q.1.2.2.2.1 q.1.2.2.2.2.1 q.1.2.2.2.2.2 q.2.1.1 q.2.1.2.1 q.2.1.2.2.1 q.2.1.2.2.2.1 q.2.1.2.2.2.2 q.2.2.1 q.2.2.2)
     (mk := fun (j : Nat) => (((pk : Int), (s, (((s.length - h.length : Nat) : Int), (h, ((h.length : Int), (j : Int)))))), ((f.1, (f.2.1, (f.2.2.1, (f.2.2.2.1, f.2.2.2.2)))), (h, out))))
     (found := fun j x y => Sum.inl ((([] : List cQ), (([] : List Int), (4 : Int))), ((f.1, (f.2.1, (f.2.2.1, (f.2.2.2.1, f.2.2.2.2)))), ((h, out), (x.1, x.2)))))
     (e := Sum.inr (((pk : Int), (s, ((s.length - h.length : Nat) : Int))), ((f.1, (f.2.1, (f.2.2.1, (f.2.2.2.1, f.2.2.2.2)))), (h, out))))
     (fun j x y hx hy => by
      have V := cO hx
      show qed_B0 n (pk : Int) s ((s.length - h.length : Nat) : Int) h (h.length : Int) (j : Int) f.1 f.2.1 f.2.2.1 f.2.2.2.1 f.2.2.2.2 h out = _
      unfold qed_B0
      have U : aI .i64 ((s.length - h.length : Nat) : Int) (j : Int) = ((s.length - h.length + j : Nat) : Int) := by rw [cK (by omega) (by omega)]; omega
      rw [decide_eq_true (by omega), yg, aE, hx, ya, U, aE, hy, ya, qel_eq n y x, ya, aH (by omega)]
      cases gG y x <;> rfl)
     (by
      show qed_B0 n (pk : Int) s ((s.length - h.length : Nat) : Int) h (h.length : Int) (h.length : Int) f.1 f.2.1 f.2.2.1 f.2.2.2.1 f.2.2.2.2 h out = _
      unfold qed_B0
      rw [decide_eq_false (by omega), ye]) n (by omega)
    rcases hL with ⟨ht, hW⟩ | ⟨ht, j, x, y, hW⟩
    ·rw [show qed_W0 n (((pk : Int), (s, (((s.length - h.length : Nat) : Int), (h, ((h.length : Int), 0))))), ((f.1, (f.2.1, (f.2.2.1, (f.2.2.2.1, f.2.2.2.2)))), (h, out))) = _ from hW, ya]
     simp only
     rw [if_neg (by rw [ht]; simp; omega), aE, N, ya]
     have J : (decide ((0 : Int) ≤ ((s.length - h.length : Nat) : Int)) && decide (((s.length - h.length : Nat) : Int) ≤ ((s.length : Nat) : Int))) = true := by
      rw [decide_eq_true (by omega), decide_eq_true (by omega)]; rfl
     rw [J, yb1, FZ n _ out (by rw [yl2]; omega) (by omega) (by omega)]
     simp only [ya, yg]
     rw [OE n]
     simp only [ya]
     unfold qec Jb
     by_cases A : i.1 = 26
     ·rw [A]; rfl
     ·rw [show (i.1 == 26) = false from beq_eq_false_iff_ne.2 A, ye, if_neg A]
      by_cases z : i.1 = 23
      ·have W := Z z
       rw [show (i.1 == 23) = true from beq_iff_eq.2 z, yg, if_pos z, ya]
       rw [show (decide (aA [i.2.1] > 0)) = true from rfl, yg, show aD [i.2.1] 0 = some i.2.1 from rfl, ya, aC, decide_eq_false (by omega), ye, if_neg (by omega)]
      ·rw [show (i.1 == 23) = false from beq_eq_false_iff_ne.2 z, ye, if_neg z, cK (by omega) (by omega)]
       by_cases H : i.1 = 24
       ·rw [show (i.1 == 24) = true from beq_iff_eq.2 H, yg, if_pos H, ya]
        rw [show (decide (aA [(pk : Int) + 1, i.2.1] > 0)) = true from rfl, yg, show aD [(pk : Int) + 1, i.2.1] 0 = some ((pk : Int) + 1) from rfl, ya, aC]
        by_cases K : (pk : Int) + 1 ≥ (f.2.2.2.2.length : Int)
        ·rw [decide_eq_true K, yg, if_pos ⟨A, z, K⟩]
        ·rw [decide_eq_false K, ye, if_neg (by omega)]
       ·rw [show (i.1 == 24) = false from beq_eq_false_iff_ne.2 H, ye, if_neg H, ya]
        rw [show (decide (aA [(pk : Int) + 1] > 0)) = true from rfl, yg, show aD [(pk : Int) + 1] 0 = some ((pk : Int) + 1) from rfl, ya, aC]
        by_cases K : (pk : Int) + 1 ≥ (f.2.2.2.2.length : Int)
        ·rw [decide_eq_true K, yg, if_pos ⟨A, z, K⟩]
        ·rw [decide_eq_false K, ye, if_neg (by omega)]
    ·rw [show qed_W0 n (((pk : Int), (s, (((s.length - h.length : Nat) : Int), (h, ((h.length : Int), 0))))), ((f.1, (f.2.1, (f.2.2.1, (f.2.2.2.1, f.2.2.2.2)))), (h, out))) = _ from hW, ya, if_pos (.inr (.inr ht))]
theorem Jn (n : Nat) (m : aW) (N pk : Nat) (f : iT) (i : B0) (s : List cQ) (r : List cQ × List cQ × Bool) (hf : m.funcs[N]? = some f) (Z : f.2.2.2.2[pk]? = some i)
  (V : qda n m.recs m.funcs m.imps m.ints m.texts f.1 f.2.1 f.2.2.1 f.2.2.2.1 f.2.2.2.2 i.1 i.2.1 i.2.2 s = some r) (hs : s.length ≤ 200) (h1 : r.1.length ≤ 200) (h2 : r.2.1.length ≤ 200) (hp : pk ≤ 200) (hc : f.2.2.2.2.length ≤ 200)
  (hn : 1000 ≤ n) : qdo n m.recs m.funcs m.imps m.ints m.texts (N : Int) (pk : Int) s = some (mU f i (pk : Int) s r) := by
 unfold qdo mU
 rw [aE, hf, ya, aE, Z, ya, V, ya]
 obtain ⟨h, out, ok⟩ := r
 simp only at h1 h2 ⊢
 cases ok with
 | false => rw [if_pos (.inl rfl)]; rfl
 | true =>
  rw [aC, aC, aC]
  simp only [yw, ye, Bool.true_eq_false, false_or]
  by_cases Y : s.length < h.length
  ·rw [if_pos (.inl Y), bV (by omega) (by omega), decide_eq_true (by omega)]; rfl
  ·have K : a8 .i64 (s.length : Int) (h.length : Int) = ((s.length - h.length : Nat) : Int) := by rw [bV (by omega) (by omega)]; omega
   rw [K, decide_eq_false (by omega), ye, cK (by omega) (by omega)]
   by_cases h4 : s.length - h.length + out.length > 8
   ·rw [if_pos (.inr (.inl h4)), decide_eq_true (by omega)]; rfl
   ·rw [decide_eq_false (by omega), ye]
    have hL := Fo h s (by omega) (B := fun q => qdo_B0 n q.1.1 q.1.2.1 q.1.2.2.1 q.1.2.2.2.1 q.1.2.2.2.2.1 q.1.2.2.2.2.2 q.2.1.1 q.2.1.2.1 q.2.1.2.2.1 q.2.1.2.2.2.1 q.2.1.2.2.2.2 q.2.2.1 q.2.2.2.1 q.2.2.2.2)
     (mk := fun (j : Nat) => (((pk : Int), (s, (h, (out, (((s.length - h.length : Nat) : Int), (j : Int)))))), ((f.1, (f.2.1, (f.2.2.1, (f.2.2.2.1, f.2.2.2.2)))), (i.1, (i.2.1, i.2.2)))))
     (found := fun j x y => Sum.inl ((([] : List cQ), (([] : List Int), (4 : Int))), ((f.1, (f.2.1, (f.2.2.1, (f.2.2.2.1, f.2.2.2.2)))), (i.1, (i.2.1, i.2.2)))))
     (e := Sum.inr (((pk : Int), (s, (out, ((s.length - h.length : Nat) : Int)))), ((f.1, (f.2.1, (f.2.2.1, (f.2.2.2.1, f.2.2.2.2)))), (i.1, (i.2.1, i.2.2)))))
     (fun j x y hx W => by
      have U := cO hx
      show qdo_B0 n (pk : Int) s h out ((s.length - h.length : Nat) : Int) (j : Int) f.1 f.2.1 f.2.2.1 f.2.2.2.1 f.2.2.2.2 i.1 i.2.1 i.2.2 = _
      unfold qdo_B0
      have O : aI .i64 ((s.length - h.length : Nat) : Int) (j : Int) = ((s.length - h.length + j : Nat) : Int) := by rw [cK (by omega) (by omega)]; omega
      rw [aC, decide_eq_true (by omega), yg, O, aE, W, ya, aE, hx, ya, sX n y x, ya, aH (by omega)]
      cases gG y x <;> rfl)
     (by
      show qdo_B0 n (pk : Int) s h out ((s.length - h.length : Nat) : Int) (h.length : Int) f.1 f.2.1 f.2.2.1 f.2.2.2.1 f.2.2.2.2 i.1 i.2.1 i.2.2 = _
      unfold qdo_B0
      rw [aC, decide_eq_false (by omega), ye]) n (by omega)
    rcases hL with ⟨ht, hW⟩ | ⟨ht, j, x, y, hW⟩
    ·rw [show qdo_W0 n (((pk : Int), (s, (h, (out, (((s.length - h.length : Nat) : Int), 0))))), ((f.1, (f.2.1, (f.2.2.1, (f.2.2.2.1, f.2.2.2.2)))), (i.1, (i.2.1, i.2.2)))) = _ from hW, ya]
     simp only
     rw [if_neg (by rw [ht]; simp; omega)]
     have J : (decide ((0 : Int) ≤ ((s.length - h.length : Nat) : Int)) && decide (((s.length - h.length : Nat) : Int) ≤ ((s.length : Nat) : Int))) = true := by
      rw [decide_eq_true (by omega), decide_eq_true (by omega)]; rfl
     rw [J, yb1, aU (by rw [yl2]; omega), aU (by rw [yi, yl2]; omega)]
     simp only [yg]
     unfold Jb
     by_cases A : i.1 = 26
     ·rw [A]; rfl
     ·rw [show (i.1 == 26) = false from beq_eq_false_iff_ne.2 A, ye, if_neg A]
      by_cases z : i.1 = 23
      ·rw [show (i.1 == 23) = true from beq_iff_eq.2 z, yg, if_pos z, if_neg (by omega)]
      ·rw [show (i.1 == 23) = false from beq_eq_false_iff_ne.2 z, ye, if_neg z, cK (by omega) (by omega), aC]
       by_cases M : (pk : Int) + 1 ≥ (f.2.2.2.2.length : Int)
       ·rw [decide_eq_true M, yg, if_pos ⟨A, z, M⟩]
       ·rw [decide_eq_false M, ye, if_neg (by omega)]
        by_cases H : i.1 = 24
        ·rw [show (i.1 == 24) = true from beq_iff_eq.2 H, yg, if_pos H]
        ·rw [show (i.1 == 24) = false from beq_eq_false_iff_ne.2 H, ye, if_neg H]
    ·rw [show qdo_W0 n (((pk : Int), (s, (h, (out, (((s.length - h.length : Nat) : Int), 0))))), ((f.1, (f.2.1, (f.2.2.1, (f.2.2.2.1, f.2.2.2.2)))), (i.1, (i.2.1, i.2.2)))) = _ from hW, ya, if_pos (.inr (.inr ht))]
end Sx
end
section
set_option maxRecDepth 100000
namespace Sx
open Go Go.Ab
end Sx
end
section
namespace Sx
open Go Go.Ab
theorem L0 {m : aW} (h : cN m = true) : m.recs.length ≤ 8 ∧ ∀ l ∈ m.recs, l.length ≤ 6 := by
 simp only [cN, yc, decide_eq_true_eq, yx] at h
 exact ⟨h.1, fun l hl => by have := iB (h.2.1 l hl); omega⟩
theorem cJ {m : aW} (h : b9 m = 0) : cN m = true ∧ ∀ f ∈ m.funcs, qF m f = false := by
 unfold b9 at h
 cases hf : cN m with
 | false => rw [if_pos hf] at h; cases h
 | true =>
  rw [if_neg (by rw [hf]; simp)] at h
  refine ⟨rfl, fun f hm => ?_⟩
  cases z : m.funcs.any (qF m) with
  | true => rw [if_pos z] at h; cases h
  | false => simpa using List.any_eq_false.1 z f hm
theorem kJ {m : aW} (h : b9 m = 0) {f : iT} (hf : f ∈ m.funcs) {i : B0} (z : i ∈ f.2.2.2.2) : iU m f i = true := by
 have := (cJ h).2 f hf
 unfold qF at this
 rw [Bool.or_eq_false_iff] at this
 simpa using List.any_eq_false.1 this.1 i z
theorem fE {α : Type} {l : List α} {x : Int} (h0 : 0 ≤ x) (h : x < (l.length : Int)) : ∃ a, aD l x = some a ∧ a ∈ l := by
 obtain ⟨k, rfl⟩ : ∃ k : Nat, x = (k : Int) := ⟨x.toNat, by omega⟩
 exact ⟨l[k]'(by omega), by rw [aE, yd], yu2 _⟩
theorem Lu (n : Nat) (m : aW) (f : iT) (i : B0) (s : List cQ) (Y : b9 m = 0) (hf : f ∈ m.funcs) (Z : i ∈ f.2.2.2.2) (K : s.length ≤ 200) :
  ∃ r, qda n m.recs m.funcs m.imps m.ints m.texts f.1 f.2.1 f.2.2.1 f.2.2.2.1 f.2.2.2.2 i.1 i.2.1 i.2.2 s = some r ∧ r.1.length ≤ 200 ∧ r.2.1.length ≤ 200 := by
 obtain ⟨hF, hB⟩ := cJ Y
 obtain ⟨k1, k2, k3, N, k5⟩ := cX hF
 obtain ⟨q1, q2⟩ := L0 hF
 have hN := kJ Y hf Z
 have J := (N f hf).1 i Z
 have hfl := N f hf
 have H := lV J
 unfold jB at J
 have J := of_decide_eq_false J
 have ha := rH (op := i.1) (by omega)
 obtain ⟨op, x, y⟩ := i
 simp only at H
 have hk : op = 0 ∨ op = 1 ∨ op = 2 ∨ op = 3 ∨ op = 4 ∨ op = 5 ∨ op = 6 ∨ op = 7 ∨ op = 8 ∨ op = 9 ∨ op = 10 ∨ op = 11 ∨ op = 12 ∨ op = 13 ∨ op = 14 ∨ op = 15 ∨ op = 16 ∨ op = 17 ∨ op = 18 ∨ op = 19 ∨ op = 20 ∨ op = 21 ∨ op = 22 ∨ op = 23 ∨ op = 24 ∨ op = 25 ∨ op = 26 ∨ op = 27 ∨ op = 28 ∨ op = 29 ∨ op = 30 ∨ op = 31 ∨ op = 32 ∨ op = 33 ∨ op = 34 ∨ op = 35 ∨ op = 36 ∨ op = 37 ∨ op = 38 ∨ op = 39 ∨ op = 40 ∨ op = 41 := by simp only at ha; omega
 rcases hk with rfl | rfl | rfl | rfl | rfl | rfl | rfl | rfl | rfl | rfl | rfl | rfl | rfl | rfl | rfl | rfl | rfl | rfl | rfl | rfl | rfl | rfl | rfl | rfl | rfl | rfl | rfl | rfl | rfl | rfl | rfl | rfl | rfl | rfl | rfl | rfl | rfl | rfl | rfl | rfl | rfl | rfl
 ·exact ⟨_, rfl, by simp, by simp⟩
 ·exact ⟨_, rfl, by simp, by simp⟩
 ·exact ⟨_, rfl, by simp, by simp⟩
 ·simp only [qda, Int.reduceBEq, ye, yg, iP n f.1 f.2.1 f.2.2.1 f.2.2.2.1 f.2.2.2.2 x (by omega), ya]
  exact ⟨_, rfl, by simp, by simp⟩
 ·simp only [qda, Int.reduceBEq, ye, yg, iP n f.1 f.2.1 f.2.2.1 f.2.2.2.1 f.2.2.2.2 x (by omega), ya]
  exact ⟨_, rfl, by simp, by simp⟩
 ·exact ⟨_, rfl, by simp, by simp⟩
 ·simp only [qda, Int.reduceBEq, ye, yg]
  by_cases h : 1 ≤ s.length
  ·obtain ⟨r, t, rfl⟩ := nE h
   rw [yi, yz1] at K
   have V : aD (r ++ [t]) (a8 .i64 (aA (r ++ [t])) 1) = some t := cR r [t] 1 0 (by simp; omega) rfl (by omega) (by simp)
   have A : a8 .i64 (aA (r ++ [t])) 1 = ((r.length : Nat) : Int) := by
    rw [aC, yi, bV (by simp <;> omega) (by simp <;> omega)]; simp
   rw [V, A, aC, yi, yz1, decide_eq_false (by omega), decide_eq_true (by omega), decide_eq_true (by omega)]
   simp only [yg, ye, ya, yd2, yb1]
   rw [yb3 (by simp), yo3]
   exact ⟨_, rfl, by simp, by simp⟩
  ·rw [aC, decide_eq_true (by omega)]
   exact ⟨_, rfl, by simp, by simp⟩
 ·simp only [qda, Int.reduceBEq, ye, yg]
  by_cases h : 2 ≤ s.length
  ·obtain ⟨r, t, u, rfl⟩ := CA h
   rw [yi] at K
   simp only [ye1, yd3] at K
   have M : aD (r ++ [t, u]) (a8 .i64 (aA (r ++ [t, u])) 1) = some u := cR r [t, u] 1 1 (by simp; omega) rfl (by omega) (by simp)
   have O : aD (r ++ [t, u]) (a8 .i64 (aA (r ++ [t, u])) 2) = some t := cR r [t, u] 2 0 (by simp; omega) rfl (by omega) (by simp)
   have A : a8 .i64 (aA (r ++ [t, u])) 2 = ((r.length : Nat) : Int) := by
    rw [aC, yi, bV (by simp <;> omega) (by simp <;> omega)]; simp
   rw [M, O, A, aC, yi]
   simp only [ye1, yd3]
   rw [decide_eq_false (by omega), decide_eq_true (by omega), decide_eq_true (by omega)]
   simp only [yg, ye, ya, yd2, yb1]
   rw [yb3 (by simp), yo3]
   exact ⟨_, rfl, by simp, by simp⟩
  ·rw [aC, decide_eq_true (by omega)]
   exact ⟨_, rfl, by simp, by simp⟩
 ·exact ⟨_, rfl, by simp, by simp⟩
 ·exact ⟨_, rfl, by simp, by simp⟩
 ·exact ⟨_, rfl, by simp, by simp⟩
 ·exact ⟨_, rfl, by simp, by simp⟩
 ·exact ⟨_, rfl, by simp, by simp⟩
 ·exact ⟨_, rfl, by simp, by simp⟩
 ·exact ⟨_, rfl, by simp, by simp⟩
 ·exact ⟨_, rfl, by simp, by simp⟩
 ·exact ⟨_, rfl, by simp, by simp⟩
 ·exact ⟨_, rfl, by simp, by simp⟩
 ·exact ⟨_, rfl, by simp, by simp⟩
 ·exact ⟨_, rfl, by simp, by simp⟩
 ·exact ⟨_, rfl, by simp, by simp⟩
 ·exact ⟨_, rfl, by simp, by simp⟩
 ·exact ⟨_, rfl, by simp, by simp⟩
 ·exact ⟨_, rfl, by simp, by simp⟩
 ·exact ⟨_, rfl, by simp, by simp⟩
 ·have z : x < (m.funcs.length : Int) := of_decide_eq_true (show decide (x < aA m.funcs) = true from hN)
  obtain ⟨a, e, hm⟩ := fE H.1 z
  simp only [qda, Int.reduceBEq, ye, yg, e, ya]
  exact ⟨_, rfl, by have := (N a hm).2.2.2.2; simp only; omega, by simp⟩
 ·exact ⟨_, rfl, by simp, by simp⟩
 ·have z : x < (m.imps.length : Int) := of_decide_eq_true (show decide (x < aA m.imps) = true from hN)
  obtain ⟨a, e, hm⟩ := fE H.1 z
  simp only [qda, Int.reduceBEq, ye, yg, e, ya]
  exact ⟨_, rfl, by have := k5 a hm; simp only; omega, by simp⟩
 ·have z : x < (m.recs.length : Int) := of_decide_eq_true (show decide (x < aA m.recs) = true from hN)
  obtain ⟨a, e, hm⟩ := fE H.1 z
  simp only [qda, Int.reduceBEq, ye, yg, e, ya]
  exact ⟨_, rfl, by have := q2 a hm; simp only; omega, by simp⟩
 ·have hN : (bif decide (x < aA m.recs) then (aD m.recs x).bind fun l => some (decide (y < aA l)) else some false).getD false = true := hN
  by_cases z : x < (m.recs.length : Int)
  ·rw [aC, decide_eq_true z, yg] at hN
   obtain ⟨a, e, hm⟩ := fE H.1 z
   rw [e] at hN
   have W : y < (a.length : Int) := of_decide_eq_true hN
   obtain ⟨b, U, _⟩ := fE H.2.2.1 W
   simp only [qda, Int.reduceBEq, ye, yg, e, U, ya]
   exact ⟨_, rfl, by simp, by simp⟩
  ·rw [aC, decide_eq_false z] at hN; cases hN
 ·have hN : (bif decide (x < aA m.recs) then (aD m.recs x).bind fun l => some (decide (y < aA l)) else some false).getD false = true := hN
  by_cases z : x < (m.recs.length : Int)
  ·rw [aC, decide_eq_true z, yg] at hN
   obtain ⟨a, e, hm⟩ := fE H.1 z
   rw [e] at hN
   have W : y < (a.length : Int) := of_decide_eq_true hN
   obtain ⟨b, U, _⟩ := fE H.2.2.1 W
   simp only [qda, Int.reduceBEq, ye, yg, e, U, ya]
   exact ⟨_, rfl, by simp, by simp⟩
  ·rw [aC, decide_eq_false z] at hN; cases hN
 ·exact ⟨_, rfl, by simp, by simp⟩
 ·exact ⟨_, rfl, by simp, by simp⟩
 ·exact ⟨_, rfl, by simp, by simp⟩
 ·exact ⟨_, rfl, by simp, by simp⟩
 ·exact ⟨_, rfl, by simp, by simp⟩
 ·exact ⟨_, rfl, by simp, by simp⟩
 ·exact ⟨_, rfl, by simp, by simp⟩
 ·exact ⟨_, rfl, by simp, by simp⟩
 ·exact ⟨_, rfl, by simp, by simp⟩
 ·exact ⟨_, rfl, by simp, by simp⟩
 ·simp only [qda, Int.reduceBEq, ye, yg]
  by_cases h : 1 ≤ s.length
  ·obtain ⟨r, t, rfl⟩ := nE h
   rw [yi, yz1] at K
   have V : aD (r ++ [t]) (a8 .i64 (aA (r ++ [t])) 1) = some t := cR r [t] 1 0 (by simp; omega) rfl (by omega) (by simp)
   have A : a8 .i64 (aA (r ++ [t])) 1 = ((r.length : Nat) : Int) := by
    rw [aC, yi, bV (by simp <;> omega) (by simp <;> omega)]; simp
   rw [V, A, aC, yi, yz1, decide_eq_false (by omega), decide_eq_true (by omega), decide_eq_true (by omega)]
   simp only [yg, ye, ya, yd2, yb1]
   rw [yb3 (by simp), yo3]
   cases t.1 != 5 <;> exact ⟨_, rfl, by simp, by simp⟩
  ·rw [aC, decide_eq_true (by omega)]
   exact ⟨_, rfl, by simp, by simp⟩
theorem LB (n : Nat) (m : aW) (H pk : Nat) (f : iT) (i : B0) (s : List cQ) (M : b9 m = 0) (hf : m.funcs[H]? = some f) (J : f.2.2.2.2[pk]? = some i) (V : s.length ≤ 200) (hn : 1000 ≤ n) :
  ∃ r, qda n m.recs m.funcs m.imps m.ints m.texts f.1 f.2.1 f.2.2.1 f.2.2.2.1 f.2.2.2.2 i.1 i.2.1 i.2.2 s = some r ∧ r.1.length ≤ 200 ∧ r.2.1.length ≤ 200 ∧
   qed n m.recs m.funcs m.imps m.ints m.texts (H : Int) (pk : Int) s = some (mU f i (pk : Int) s r) ∧ qdo n m.recs m.funcs m.imps m.ints m.texts (H : Int) (pk : Int) s = some (mU f i (pk : Int) s r) := by
 have z := yj hf
 have A := yj J
 obtain ⟨hF, hB⟩ := cJ M
 obtain ⟨k1, k2, k3, W, k5⟩ := cX hF
 have O := W f z
 have Y := cO J
 obtain ⟨r, K, U, N⟩ := Lu n m f i s M z A V
 refine ⟨r, K, U, N, qed_eq n m H pk f i s r hf J (O.1 i A) (by omega) K V U N (by omega) (by omega) (fun h => ?_) hn, Jn n m H pk f i s r hf J K V U N (by omega) (by omega) hn⟩
 have hN := kJ M z A
 obtain ⟨op, x, y⟩ := i
 simp only at h
 subst h
 exact of_decide_eq_true (show decide (x < aA f.2.2.2.2) = true from hN)
end Sx
end
section
namespace Sx
open Go Go.Ab
def NW (x y : cQ) : Bool := (x.1 == y.1) && (x.2 == y.2)
theorem MM (x : cQ) : NW x x = true := by simp [NW]
theorem Fd (n : Nat) (a b : List cQ) (ha : a.length ≤ 5000) (hn : 6000 ≤ n) : qcq n a b = some (KS NW a b) := by
 unfold qcq KS
 rw [vI]
 by_cases hl : a.length = b.length
 ·rw [decide_eq_true hl, yw, ye, yu]
  have h := loop_two (B := fun s => qcq_B0 n s.1 s.2.1 s.2.2) (mk := fun (i : Nat) => (a, (b, (i : Int)))) (p := NW) (found := fun i x y => Sum.inl false) (e := Sum.inr ()) hl (fun i x y hx z => ?_) ?_ n (by omega)
  ·rcases h with ⟨h1, h2⟩ | ⟨h1, i, x, y, h2⟩
   ·rw [show qcq_W0 n (a, (b, 0)) = _ from h2, h1]; rfl
   ·rw [show qcq_W0 n (a, (b, 0)) = _ from h2, h1]; rfl
  ·have hi := cO hx
   show qcq_B0 n a b (i : Int) = _
   unfold qcq_B0
   rw [aC, decide_eq_true (by omega), yg, aE, hx, ya, aE, z, ya, aH (by omega)]
   show (bif !NW x y then _ else _) = _
   cases NW x y <;> rfl
  ·show qcq_B0 n a b (a.length : Int) = _
   unfold qcq_B0
   rw [aC, decide_eq_false (by omega), ye]
 ·rw [decide_eq_false hl]; rfl
theorem Mp {f : iT} {i : B0} {pc : Int} {s : List cQ} {r : List cQ × List cQ × Bool} (hs : s.length ≤ 200) (h2 : r.2.1.length ≤ 200) : (mU f i pc s r).1.length ≤ 400 ∧ (mU f i pc s r).2.1.length ≤ 2 := by
 unfold mU
 split
 ·simp
 ·split
  ·simp
  ·refine ⟨by simp only [yi, yl2]; omega, ?_⟩
   unfold Jb
   simp only
   split
   ·simp
   ·split
    ·simp
    ·split <;> simp
end Sx
end
section
namespace Sx
open Go Go.Ab
theorem oX {X S : Type} {B : S → Option (S ⊕ X)} {mk : Nat → S} {p : Nat → Bool} {found : Nat → X} {e : X} (k : Nat)
  (J : ∀ i, i < k → B (mk i) = (if p i = true then some (.inl (mk (i + 1))) else some (.inr (found i)))) (H : B (mk k) = some (.inr e)) (n : Nat) (hn : k < n) :
  ((List.range k).all p = true ∧ aK B n (mk 0) = some e) ∨ ((List.range k).all p = false ∧ ∃ i, i < k ∧ aK B n (mk 0) = some (found i)) := by
 have h := bA (xs := List.range k) (B := B) (mk := mk) (p := fun i => !p i) (found := fun i _ => found i) (e := e) (fun i x hx => ?_) (by rw [yj2]; exact H) k 0 n (by rw [yj2]; omega) hn
 ·rw [yl1] at h
  have A : (List.range k).all p = !(List.range k).any (fun i => !p i) := by rw [yr2]
  rcases h with ⟨h1, j, x, hx, _, h2⟩ | ⟨h1, h2⟩
  ·have := cO hx
   rw [yj2] at this
   exact .inr ⟨by rw [A, h1]; rfl, j, this, h2⟩
  ·exact .inl ⟨by rw [A, h1]; rfl, h2⟩
 ·have z := cO hx
  rw [yj2] at z
  rw [List.getElem?_range z] at hx
  obtain rfl := yb hx
  rw [J i z]
  cases p i <;> rfl
abbrev dA := Bool × List cQ
noncomputable def Br (m : aW) (f : iT) (i : B0) (s : List cQ) : List cQ × List cQ × Bool := (qda 10000 m.recs m.funcs m.imps m.ints m.texts f.1 f.2.1 f.2.2.1 f.2.2.2.1 f.2.2.2.2 i.1 i.2.1 i.2.2 s).getD ([], [], false)
noncomputable def eO (m : aW) (f : iT) (i : B0) (pc : Int) (s : List cQ) : FR := mU f i pc s (Br m f i s)
theorem z3 (m : aW) (J pk : Nat) (f : iT) (i : B0) (s : List cQ) (N : b9 m = 0) (hf : m.funcs[J]? = some f) (V : f.2.2.2.2[pk]? = some i) (Z : s.length ≤ 200) :
  qed 10000 m.recs m.funcs m.imps m.ints m.texts (J : Int) (pk : Int) s = some (eO m f i (pk : Int) s) ∧ qdo 10000 m.recs m.funcs m.imps m.ints m.texts (J : Int) (pk : Int) s = some (eO m f i (pk : Int) s) ∧
   qda 10000 m.recs m.funcs m.imps m.ints m.texts f.1 f.2.1 f.2.2.1 f.2.2.2.1 f.2.2.2.2 i.1 i.2.1 i.2.2 s = some (Br m f i s) ∧
   (eO m f i (pk : Int) s).1.length ≤ 400 ∧ (eO m f i (pk : Int) s).2.1.length ≤ 2 ∧ ∀ t ∈ (eO m f i (pk : Int) s).2.1, 0 ≤ t ∧ t < (f.2.2.2.2.length : Int) := by
 obtain ⟨r, W, l1, l2, e1, e2⟩ := LB 10000 m J pk f i s N hf V Z (by omega)
 have hR : Br m f i s = r := by unfold Br; rw [W]; rfl
 have hF : eO m f i (pk : Int) s = mU f i (pk : Int) s r := by unfold eO; rw [hR]
 have z := Mp (f := f) (i := i) (pc := (pk : Int)) (s := s) (r := r) Z l2
 rw [hF, hR]
 refine ⟨e1, e2, W, z.1, z.2, fun t ht => ?_⟩
 have A := yj hf
 have H := yj V
 have hN := kJ N A H
 have Y := lV ((cX (cJ N).1).2.2.2.1 f A |>.1 i H)
 have hA : i.1 = 23 ∨ i.1 = 24 → i.2.1 < (f.2.2.2.2.length : Int) := by
  obtain ⟨op, x, y⟩ := i
  rintro (h | h)
  ·simp only at h; subst h
   exact of_decide_eq_true (show decide (x < aA f.2.2.2.2) = true from hN)
  ·simp only at h; subst h
   exact of_decide_eq_true (show decide (x < aA f.2.2.2.2) = true from hN)
 have hpk := cO V
 unfold mU at ht
 split at ht
 ·cases ht
 ·split at ht
  ·cases ht
  ·rename_i h2
   unfold Jb at ht
   simp only at ht
   split at ht
   ·cases ht
   ·rename_i K
    split at ht
    ·rename_i O
     obtain rfl := ym1.1 ht
     exact ⟨Y.1, hA (.inl O)⟩
    ·rename_i U
     have hlt : (pk : Int) + 1 < (f.2.2.2.2.length : Int) := by
      by_cases h : (pk : Int) + 1 < (f.2.2.2.2.length : Int)
      ·exact h
      ·exact absurd ⟨K, U, Int.not_lt.1 h⟩ h2
     split at ht
     ·rename_i M
      rcases yq1.1 ht with rfl | ht
      ·omega
      ·obtain rfl := ym1.1 ht
       exact ⟨Y.1, hA (.inr M)⟩
     ·obtain rfl := ym1.1 ht
      omega
def dM (sh : List dA) (after : List cQ) (t : Int) : Bool := match aD sh t with | some x => x.1 && eB after x.2 | none => false
noncomputable def By (m : aW) (f : iT) (sh : List dA) (i : B0) (pc : Int) (x : dA) : Bool :=
 !decide (x.2.length > 8) && (!x.1 || ((eO m f i pc x.2).2.2 == 0 && (eO m f i pc x.2).2.1.all (dM sh (eO m f i pc x.2).1)))
noncomputable def kO (m : aW) (f : iT) (sh : List dA) (pc : Nat) : Bool := match sh[pc]?, f.2.2.2.2[pc]? with | some x, some i => By m f sh i (pc : Int) x | _, _ => false
noncomputable def nP (m : aW) (f : iT) (sh : List dA) : Bool := decide (sh.length = f.2.2.2.2.length) && (match sh with | x :: _ => x.1 && !decide (x.2.length > 0) | [] => false) && (List.range sh.length).all (kO m f sh)
noncomputable def Qb (m : aW) (maps : List (List dA)) (k : Nat) : Bool := match maps[k]?, m.funcs[k]? with | some sh, some f => nP m f sh | _, _ => false
theorem Hp {m : aW} {h : List (List dA)} {k : Nat} {sh : List dA} {f : iT} (h1 : h[k]? = some sh) (h2 : m.funcs[k]? = some f) : Qb m h k = nP m f sh := by unfold Qb; rw [h1, h2]
noncomputable def fD (m : aW) (maps : List (List dA)) : Bool := mI m && (decide (maps.length = m.funcs.length) && (List.range maps.length).all (Qb m maps))
theorem lC {α : Type} {l : List α} {t : Int} (z : 0 ≤ t) (h : t < (l.length : Int)) : ∃ x, aD l t = some x := by
 obtain ⟨a, A, _⟩ := fE z h
 exact ⟨a, A⟩
theorem qdl_eq (n : Nat) (sh : List dA) (h : List cQ) (t : Int) (A : h.length ≤ 5000) (ht : 0 ≤ t ∧ t < (sh.length : Int)) (hn : 6000 ≤ n) : qdl n t sh h = some (!dM sh h t, (sh, h)) := by
 unfold qdl dM
 obtain ⟨x, hx⟩ := lC ht.1 ht.2
 rw [hx, ya, ya, qbx_eq n h x.2 A hn]
 cases z : x.1 <;> simp [z]
theorem Da (n : Nat) (sh : List dA) (z : List cQ) (to : List Int) (H : z.length ≤ 5000) (ht : ∀ t ∈ to, 0 ≤ t ∧ t < (sh.length : Int)) (hl : to.length ≤ 10) (hn : 6000 ≤ n) : qad n to sh z = some (!to.all (dM sh z), (sh, z)) := by
 unfold qad qay
 have h := bA (xs := to) (B := fun s => qay_B0 n s.1.1 s.1.2.1 s.1.2.2 s.2.1 s.2.2) (mk := fun (i : Nat) => ((to, (aA to, (i : Int))), (sh, z))) (p := fun t => !dM sh z t)
  (found := fun i t => Sum.inl ((i : Int), (sh, z))) (e := Sum.inr (sh, z)) (fun i t hx => ?_) ?_ to.length 0 n (by omega) (by omega)
 ·rw [yl1] at h
  have A : to.all (dM sh z) = !to.any (fun t => !dM sh z t) := by rw [yr2]
  rcases h with ⟨h1, j, x, hx, _, h2⟩ | ⟨h1, h2⟩
  ·rw [show qay_W0 n ((to, (aA to, 0)), (sh, z)) = _ from h2, A, h1]
   show some (decide ((j : Int) ≥ 0), (sh, z)) = _
   rw [decide_eq_true (by omega)]; rfl
  ·rw [show qay_W0 n ((to, (aA to, 0)), (sh, z)) = _ from h2, A, h1]; rfl
 ·have hi := cO hx
  show qay_B0 n to (aA to) (i : Int) sh z = _
  unfold qay_B0
  rw [aC, decide_eq_true (by omega), yg, aE, hx, ya, qdl_eq n sh z t H (ht t (yj hx)) hn, ya, aH (by omega)]
  cases dM sh z t <;> rfl
 ·show qay_B0 n to (aA to) (to.length : Int) sh z = _
  unfold qay_B0
  rw [aC, decide_eq_false (by omega), ye]
theorem qei_eq (m : aW) (h pk : Nat) (f : iT) (i : B0) (sh : List dA) (x : dA) (H : b9 m = 0) (hf : m.funcs[h]? = some f) (A : f.2.2.2.2[pk]? = some i) (hx : sh[pk]? = some x) (hl : sh.length = f.2.2.2.2.length) :
  qei 10000 m.recs m.funcs m.imps m.ints m.texts (h : Int) (pk : Int) sh = some (kO m f sh pk) := by
 unfold qei kO
 rw [aE, hx, A, ya]
 simp only [By]
 rw [aC]
 by_cases z : x.2.length > 8
 ·rw [decide_eq_true (by omega : (x.2.length : Int) > 8), decide_eq_true z]; rfl
 ·rw [decide_eq_false (by omega : ¬ (x.2.length : Int) > 8), decide_eq_false z]
  obtain ⟨M, _, _, K, J, ht⟩ := z3 m h pk f i x.2 H hf A (by omega)
  rw [M]
  generalize eO m f i (pk : Int) x.2 = R at K J ht ⊢
  cases hb : x.1 with
  | false => rfl
  | true =>
   simp only [yw, ye, ya, yx2, yu, yl3]
   rw [Da 10000 sh R.1 R.2.1 (by omega) (by rw [hl]; exact ht) (by omega) (by omega)]
   cases R.2.2 == 0 <;> simp
theorem Ka (m : aW) (H : Nat) (f : iT) (sh : List dA) (z : List (List dA)) (A : Int) (J : b9 m = 0) (hf : m.funcs[H]? = some f) (hl : sh.length = f.2.2.2.2.length) (hs : sh.length ≤ 200) :
  qbr_W2 10000 (((H : Int), (sh, (z, (A, ((H : Int), (aA sh, 0)))))), aJ m) = some (if (List.range sh.length).all (kO m f sh) = true then Sum.inr ((z, (A, (H : Int))), aJ m) else Sum.inl (false, aJ m)) := by
 have h := oX (B := fun s => qbr_B2 10000 s.1.1 s.1.2.1 s.1.2.2.1 s.1.2.2.2.1 s.1.2.2.2.2.1 s.1.2.2.2.2.2.1 s.1.2.2.2.2.2.2 s.2.1 s.2.2.1 s.2.2.2.1 s.2.2.2.2.1 s.2.2.2.2.2) (mk := fun (j : Nat) => (((H : Int), (sh, (z, (A, ((H : Int), (aA sh, (j : Int))))))), aJ m))
  (p := kO m f sh) (found := fun j => Sum.inl (false, aJ m)) (e := Sum.inr ((z, (A, (H : Int))), aJ m)) sh.length (fun j hj => ?_) ?_ 10000 (by omega)
 ·rcases h with ⟨h1, h2⟩ | ⟨h1, j, _, h2⟩
  ·rw [h1, if_pos rfl]; exact h2
  ·rw [h1, if_neg (by simp)]; exact h2
 ·show qbr_B2 10000 (H : Int) sh z A (H : Int) (aA sh) (j : Int) m.recs m.funcs m.imps m.ints m.texts = _
  unfold qbr_B2
  rw [aC, decide_eq_true (by omega), yg, qei_eq m H j f (f.2.2.2.2[j]'(by omega)) sh sh[j] J hf (yd _) (yd _) hl, ya, aH (by omega)]
  cases kO m f sh j <;> rfl
 ·show qbr_B2 10000 (H : Int) sh z A (H : Int) (aA sh) (sh.length : Int) m.recs m.funcs m.imps m.ints m.texts = _
  unfold qbr_B2
  rw [aC, decide_eq_false (by omega), ye]
theorem jS {m : aW} (h : mI m = true) : b9 m = 0 := by
 unfold mI at h
 rw [yc] at h
 exact beq_iff_eq.1 h.1
theorem qbr_eq (m : aW) (V : Fh m) (z : List (List dA)) : qbr 10000 m.recs m.funcs m.imps m.ints m.texts z = some (fD m z) := by
 unfold qbr fD
 rw [Kx 10000 m V (by omega), ya]
 cases hM : mI m with
 | false => rfl
 | true =>
  have M := jS hM
  obtain ⟨k1, _, _, O, _⟩ := cX (cJ M).1
  simp only [yw, ye, yu]
  rw [vI]
  by_cases hl : z.length = m.funcs.length
  ·rw [decide_eq_true hl]
   simp only [yw, ye, yu]
   have h := oX (B := fun s => qbr_B0 10000 s.1.1 s.1.2.1 s.1.2.2 s.2.1 s.2.2.1 s.2.2.2.1 s.2.2.2.2.1 s.2.2.2.2.2) (mk := fun (j : Nat) => ((z, (aA z, (j : Int))), aJ m))
    (p := Qb m z) (found := fun j => Sum.inl (false, aJ m)) (e := Sum.inr (aJ m)) z.length (fun j U => ?_) ?_ 10000 (by omega)
   ·rcases h with ⟨h1, h2⟩ | ⟨h1, j, _, h2⟩
    ·rw [h1, show qbr_W0 10000 ((z, (aA z, 0)), _) = _ from h2]; rfl
    ·rw [h1, show qbr_W0 10000 ((z, (aA z, 0)), _) = _ from h2]; rfl
   ·show qbr_B0 10000 z (aA z) (j : Int) m.recs m.funcs m.imps m.ints m.texts = _
    have K : z[j]? = some z[j] := yd U
    have H : m.funcs[j]? = some (m.funcs[j]'(by omega)) := yd _
    generalize z[j] = sh at K
    generalize m.funcs[j]'(by omega) = f at H
    unfold qbr_B0
    rw [Hp K H, aC, decide_eq_true (by omega), yg, aE, K, ya, aE, H, ya, vI]
    by_cases A : sh.length = f.2.2.2.2.length
    ·have hk := O f (yj H)
     rw [decide_eq_true A, yw, ye]
     match sh, A, K with
     | [], A, _ => exfalso; simp at A; omega
     | x :: sh, A, K =>
      rw [show aD (x :: sh) 0 = some x from rfl, ya, ya, aC]
      have hW := Ka m j f (x :: sh) z (z.length : Int) M H A (by omega)
      rw [show qbr_W2 10000 (((j : Int), (x :: sh, (z, ((z.length : Int), ((j : Int), (aA (x :: sh), 0)))))), (m.recs, (m.funcs, (m.imps, (m.ints, m.texts))))) = _ from hW]
      have J : nP m f (x :: sh) = ((x.1 && !decide (x.2.length > 0)) && (List.range (x :: sh).length).all (kO m f (x :: sh))) := by
       unfold nP
       rw [decide_eq_true A, yu]
      show _ = (if nP m f (x :: sh) = true then some (Sum.inl ((z, ((z.length : Int), ((j + 1 : Nat) : Int))), aJ m)) else some (Sum.inr (Sum.inl (false, aJ m))))
      rw [J]
      cases hb : x.1 with
      | false => rfl
      | true =>
       by_cases N : x.2.length > 0
       ·rw [decide_eq_true (by omega : (x.2.length : Int) > 0), decide_eq_true N]; rfl
       ·rw [decide_eq_false (by omega : ¬ (x.2.length : Int) > 0), decide_eq_false N]
        cases (List.range (x :: sh).length).all (kO m f (x :: sh)) with
        | false => rfl
        | true =>
         show some (Sum.inl ((z, ((z.length : Int), aI .i64 (j : Int) 1)), aJ m)) = _
         rw [aH (by omega)]; rfl
    ·have J : nP m f sh = false := by unfold nP; rw [decide_eq_false A]; rfl
     show _ = (if nP m f sh = true then some (Sum.inl ((z, ((z.length : Int), ((j + 1 : Nat) : Int))), aJ m)) else some (Sum.inr (Sum.inl (false, aJ m))))
     rw [J, decide_eq_false A]; rfl
   ·show qbr_B0 10000 z (aA z) (z.length : Int) m.recs m.funcs m.imps m.ints m.texts = _
    unfold qbr_B0
    rw [aC, decide_eq_false (by omega), ye]
  ·rw [decide_eq_false hl]; rfl
end Sx
end
section
namespace Sx
open Go Go.Ab
def Hr (t : cQ) : Prop := ((t.1 = 1 ∨ t.1 = 2 ∨ t.1 = 3 ∨ t.1 = 6 ∨ t.1 = 7 ∨ t.1 = 8) ∧ t.2 = 0) ∨ t.1 = 4 ∨ t.1 = 5
def Ft (s : List cQ) : Prop := ∀ t ∈ s, Hr t
def E8 (t : cQ) : Nat := if t.1 = 8 then 3 else if t.1 = 7 then 2 else if t.1 = 6 then 0 else 1
def gO (a b : cQ) : cQ := if gG a b = true then b else if gG b a = true then a else if oB a = true ∧ oB b = true then (7, 0) else (8, 0)
theorem H4 (n : Nat) (a b : cQ) : qcl n a.1 a.2 b.1 b.2 = some (gO a b) := by
 unfold qcl gO
 rw [sX n a b, sX n b a, r8 n a, r8 n b]
 simp only [ya]
 cases gG a b <;> cases gG b a <;> cases oB a <;> cases oB b <;> rfl
theorem z1 {recs : Int} {t : cQ} (h : fK recs t = true) : Hr t := by
 unfold fK at h
 unfold Hr
 split at h
 ·rename_i h1
  have := eq_of_beq h
  rcases h1 with h1 | h1 | h1 | h1
  ·exact .inl ⟨.inl h1, this⟩
  ·exact .inl ⟨.inr (.inl h1), this⟩
  ·exact .inl ⟨.inr (.inr (.inl h1)), this⟩
  ·exact .inl ⟨.inr (.inr (.inr (.inr (.inl h1)))), this⟩
 ·split at h
  ·exact .inr (.inl (by assumption))
  ·split at h
   ·exact .inr (.inr (by assumption))
   ·cases h
theorem I3 {a b : cQ} (O : Hr a) (hb : Hr b) : Hr (gO a b) ∧ gG a (gO a b) = true ∧ gG b (gO a b) = true ∧ E8 (gO a b) ≤ 3 ∧ E8 a ≤ E8 (gO a b) ∧ (gO a b ≠ a → E8 a < E8 (gO a b)) := by
 have H : ∀ t : cQ, E8 t ≤ 3 := fun t => by unfold E8; split <;> (try split) <;> (try split) <;> omega
 have V : ∀ j : cQ, Hr j → gG a j = true → E8 a ≤ E8 j ∧ (j ≠ a → E8 a < E8 j) := by
  intro j Y hs
  rcases (oT a j).1 hs with rfl | h8 | ⟨r1, r2, r3⟩
  ·exact ⟨yz _, fun h => absurd rfl h⟩
  ·have N : E8 j = 3 := by unfold E8; rw [if_pos h8]
   refine ⟨by rw [N]; exact H a, fun z => ?_⟩
   rw [N]
   by_cases W : a.1 = 8
   ·exfalso
    apply z
    unfold Hr at O Y
    have e1 : a.2 = 0 := by omega
    have e2 : j.2 = 0 := by omega
    exact Prod.ext (by omega) (by omega)
   ·unfold E8
    rw [if_neg W]
    split
    ·omega
    ·split <;> omega
  ·rw [IS] at r1 r2
   have M : a.1 ≠ 8 := by omega
   have J : j.1 ≠ 8 := by omega
   unfold E8
   rw [if_neg M, if_neg J]
   by_cases K : a.1 = 7
   ·have A : j.1 = 7 := by omega
    rw [if_pos K, if_pos A]
    refine ⟨yz _, fun z => absurd (Prod.ext (by omega) ?_) z⟩
    unfold Hr at O Y
    omega
   ·rw [if_neg K]
    by_cases A : j.1 = 7
    ·rw [if_pos A]
     exact ⟨by split <;> omega, fun _ => by split <;> omega⟩
    ·have U : a.1 = 6 := by omega
     rw [if_neg A, if_pos U]
     refine ⟨Nat.zero_le _, fun z => ?_⟩
     split
     ·rename_i hj6
      exfalso
      apply z
      unfold Hr at O Y
      exact Prod.ext (by omega) (by omega)
     ·omega
 have hw : Hr (gO a b) ∧ gG a (gO a b) = true ∧ gG b (gO a b) = true := by
  unfold gO
  by_cases h1 : gG a b = true
  ·rw [if_pos h1]; exact ⟨hb, h1, AI b⟩
  ·rw [if_neg h1]
   by_cases h2 : gG b a = true
   ·rw [if_pos h2]; exact ⟨O, AI a, h2⟩
   ·rw [if_neg h2]
    by_cases H : oB a = true ∧ oB b = true
    ·rw [if_pos H]
     exact ⟨.inl ⟨.inr (.inr (.inr (.inr (.inl rfl)))), rfl⟩, (oT _ _).2 (.inr (.inr ⟨H.1, rfl, .inr rfl⟩)), (oT _ _).2 (.inr (.inr ⟨H.2, rfl, .inr rfl⟩))⟩
    ·rw [if_neg H]
     exact ⟨.inl ⟨.inr (.inr (.inr (.inr (.inr rfl)))), rfl⟩, (oT _ _).2 (.inr (.inl rfl)), (oT _ _).2 (.inr (.inl rfl))⟩
 obtain ⟨w1, Z, w3⟩ := hw
 obtain ⟨k1, k2⟩ := V _ w1 Z
 exact ⟨w1, Z, w3, H _, k1, k2⟩
theorem J4 {m : aW} (h : cN m = true) : (∀ f ∈ m.funcs, Ft f.1 ∧ Hr (f.2.1, f.2.2.1) ∧ Ft f.2.2.2.1) ∧ (∀ i ∈ m.imps, Hr (i.2.1, i.2.2)) ∧ ∀ l ∈ m.recs, Ft l := by
 simp only [cN, yc, decide_eq_true_eq, yx] at h
 obtain ⟨_, h2, _, _, A, _, z, _⟩ := h
 refine ⟨fun f hf => ?_, fun i H => ?_, fun l hl => ?_⟩
 ·have := A f hf
  simp only [oF, bN, yc, yx] at this
  exact ⟨fun t ht => z1 (this.1.2 t ht), z1 this.2.1, fun t ht => z1 (this.2.2.1.2 t ht)⟩
 ·have := z i H
  simp only [qG, yc] at this
  exact z1 this.2
 ·have := h2 l hl
  simp only [bN, yc, yx] at this
  exact fun t ht => z1 (this.2 t ht)
theorem Lk {a l : List cQ} (A : Ft a) (hl : Ft l) (k : Int) : Hr (AE a l k) := by
 unfold AE
 split
 ·rename_i h
  have z : k.toNat < (a ++ l).length := by rw [yi]; omega
  rw [yl, yd z]
  have := yu2 z
  rcases yy1.1 this with h | h
  ·exact A _ h
  ·exact hl _ h
 ·exact .inl ⟨.inr (.inr (.inr (.inr (.inr rfl)))), rfl⟩
theorem wX {t : cQ} (h : Hr t) : Ft [t] := fun x hx => by rw [ym1.1 hx]; exact h
theorem Qp {t u : cQ} (h : Hr t) (z : Hr u) : Ft [t, u] := fun x hx => by
 rcases yq1.1 hx with rfl | hx
 ·exact h
 ·rw [ym1.1 hx]; exact z
theorem IZ : Ft [] := fun x hx => by cases hx
theorem AZ (k : Int) (h : k = 1 ∨ k = 2 ∨ k = 3 ∨ k = 6 ∨ k = 7 ∨ k = 8) : Hr (k, 0) := .inl ⟨h, rfl⟩
theorem Oi (n : Nat) (m : aW) (f : iT) (i : B0) (s : List cQ) (r : List cQ × List cQ × Bool) (hc : b9 m = 0) (hf : f ∈ m.funcs) (hi : i ∈ f.2.2.2.2) (N : s.length ≤ 200) (U : Ft s)
  (z : qda n m.recs m.funcs m.imps m.ints m.texts f.1 f.2.1 f.2.2.1 f.2.2.2.1 f.2.2.2.2 i.1 i.2.1 i.2.2 s = some r) : Ft r.2.1 := by
 obtain ⟨hF, hB⟩ := cJ hc
 obtain ⟨k1, k2, k3, k4, k5⟩ := cX hF
 obtain ⟨g1, g2, g3⟩ := J4 hF
 have hN := kJ hc hf hi
 have M := (k4 f hf).1 i hi
 have hfl := k4 f hf
 have J := lV M
 unfold jB at M
 have M := of_decide_eq_false M
 have ha := rH (op := i.1) (by omega)
 obtain ⟨op, x, y⟩ := i
 simp only at J
 have hk : op = 0 ∨ op = 1 ∨ op = 2 ∨ op = 3 ∨ op = 4 ∨ op = 5 ∨ op = 6 ∨ op = 7 ∨ op = 8 ∨ op = 9 ∨ op = 10 ∨ op = 11 ∨ op = 12 ∨ op = 13 ∨ op = 14 ∨ op = 15 ∨ op = 16 ∨ op = 17 ∨ op = 18 ∨ op = 19 ∨ op = 20 ∨ op = 21 ∨ op = 22 ∨ op = 23 ∨ op = 24 ∨ op = 25 ∨ op = 26 ∨ op = 27 ∨ op = 28 ∨ op = 29 ∨ op = 30 ∨ op = 31 ∨ op = 32 ∨ op = 33 ∨ op = 34 ∨ op = 35 ∨ op = 36 ∨ op = 37 ∨ op = 38 ∨ op = 39 ∨ op = 40 ∨ op = 41 := by simp only at ha; omega
 rcases hk with rfl | rfl | rfl | rfl | rfl | rfl | rfl | rfl | rfl | rfl | rfl | rfl | rfl | rfl | rfl | rfl | rfl | rfl | rfl | rfl | rfl | rfl | rfl | rfl | rfl | rfl | rfl | rfl | rfl | rfl | rfl | rfl | rfl | rfl | rfl | rfl | rfl | rfl | rfl | rfl | rfl | rfl
 ·obtain rfl := yb z; exact wX (AZ 1 (by omega))
 ·obtain rfl := yb z; exact wX (AZ 2 (by omega))
 ·obtain rfl := yb z; exact wX (AZ 6 (by omega))
 ·simp only [qda, Int.reduceBEq, ye, yg, iP n f.1 f.2.1 f.2.2.1 f.2.2.2.1 f.2.2.2.2 x (by omega), ya] at z
  obtain rfl := yb z
  exact wX (Lk (g1 f hf).1 (g1 f hf).2.2 x)
 ·simp only [qda, Int.reduceBEq, ye, yg, iP n f.1 f.2.1 f.2.2.1 f.2.2.2.1 f.2.2.2.2 x (by omega), ya] at z
  obtain rfl := yb z
  exact IZ
 ·obtain rfl := yb z; exact IZ
 ·simp only [qda, Int.reduceBEq, ye, yg] at z
  by_cases h : 1 ≤ s.length
  ·obtain ⟨q, t, rfl⟩ := nE h
   rw [yi, yz1] at N
   have Y : aD (q ++ [t]) (a8 .i64 (aA (q ++ [t])) 1) = some t := cR q [t] 1 0 (by simp; omega) rfl (by omega) (by simp)
   have H : a8 .i64 (aA (q ++ [t])) 1 = ((q.length : Nat) : Int) := by
    rw [aC, yi, bV (by simp <;> omega) (by simp <;> omega)]; simp
   rw [Y, H, aC, yi, yz1, decide_eq_false (by omega), decide_eq_true (by omega), decide_eq_true (by omega)] at z
   simp only [yg, ye, ya, yd2, yb1] at z
   obtain rfl := yb z
   have ht := U t (by simp)
   exact Qp ht ht
  ·rw [aC, decide_eq_true (by omega)] at z
   obtain rfl := yb z
   exact IZ
 ·simp only [qda, Int.reduceBEq, ye, yg] at z
  by_cases h : 2 ≤ s.length
  ·obtain ⟨q, t, u, rfl⟩ := CA h
   rw [yi] at N
   simp only [ye1, yd3] at N
   have O : aD (q ++ [t, u]) (a8 .i64 (aA (q ++ [t, u])) 1) = some u := cR q [t, u] 1 1 (by simp; omega) rfl (by omega) (by simp)
   have V : aD (q ++ [t, u]) (a8 .i64 (aA (q ++ [t, u])) 2) = some t := cR q [t, u] 2 0 (by simp; omega) rfl (by omega) (by simp)
   have H : a8 .i64 (aA (q ++ [t, u])) 2 = ((q.length : Nat) : Int) := by
    rw [aC, yi, bV (by simp <;> omega) (by simp <;> omega)]; simp
   rw [O, V, H, aC, yi] at z
   simp only [ye1, yd3] at z
   rw [decide_eq_false (by omega), decide_eq_true (by omega), decide_eq_true (by omega)] at z
   simp only [yg, ye, ya, yd2, yb1] at z
   obtain rfl := yb z
   exact Qp (U u (by simp)) (U t (by simp))
  ·rw [aC, decide_eq_true (by omega)] at z
   obtain rfl := yb z
   exact IZ
 ·obtain rfl := yb z; exact wX (AZ 1 (by omega))
 ·obtain rfl := yb z; exact wX (AZ 1 (by omega))
 ·obtain rfl := yb z; exact wX (AZ 1 (by omega))
 ·obtain rfl := yb z; exact wX (AZ 1 (by omega))
 ·obtain rfl := yb z; exact wX (AZ 1 (by omega))
 ·obtain rfl := yb z; exact wX (AZ 1 (by omega))
 ·obtain rfl := yb z; exact wX (AZ 1 (by omega))
 ·obtain rfl := yb z; exact wX (AZ 1 (by omega))
 ·obtain rfl := yb z; exact wX (AZ 1 (by omega))
 ·obtain rfl := yb z; exact wX (AZ 1 (by omega))
 ·obtain rfl := yb z; exact wX (AZ 1 (by omega))
 ·obtain rfl := yb z; exact wX (AZ 1 (by omega))
 ·obtain rfl := yb z; exact wX (AZ 1 (by omega))
 ·obtain rfl := yb z; exact wX (AZ 1 (by omega))
 ·obtain rfl := yb z; exact Qp (AZ 1 (by omega)) (AZ 1 (by omega))
 ·obtain rfl := yb z; exact IZ
 ·obtain rfl := yb z; exact IZ
 ·have A : x < (m.funcs.length : Int) := of_decide_eq_true (show decide (x < aA m.funcs) = true from hN)
  obtain ⟨a, e, hm⟩ := fE J.1 A
  simp only [qda, Int.reduceBEq, ye, yg, e, ya] at z
  obtain rfl := yb z
  exact wX (g1 a hm).2.1
 ·obtain rfl := yb z; exact IZ
 ·have A : x < (m.imps.length : Int) := of_decide_eq_true (show decide (x < aA m.imps) = true from hN)
  obtain ⟨a, e, hm⟩ := fE J.1 A
  simp only [qda, Int.reduceBEq, ye, yg, e, ya] at z
  obtain rfl := yb z
  exact wX (g2 a hm)
 ·have A : x < (m.recs.length : Int) := of_decide_eq_true (show decide (x < aA m.recs) = true from hN)
  obtain ⟨a, e, hm⟩ := fE J.1 A
  simp only [qda, Int.reduceBEq, ye, yg, e, ya] at z
  obtain rfl := yb z
  exact wX (.inr (.inl rfl))
 ·have hN : (bif decide (x < aA m.recs) then (aD m.recs x).bind fun l => some (decide (y < aA l)) else some false).getD false = true := hN
  by_cases A : x < (m.recs.length : Int)
  ·rw [aC, decide_eq_true A, yg] at hN
   obtain ⟨a, e, hm⟩ := fE J.1 A
   rw [e] at hN
   have Z : y < (a.length : Int) := of_decide_eq_true hN
   obtain ⟨b, W, K⟩ := fE J.2.2.1 Z
   simp only [qda, Int.reduceBEq, ye, yg, e, W, ya] at z
   obtain rfl := yb z
   exact wX (g3 a hm b K)
  ·rw [aC, decide_eq_false A] at hN; cases hN
 ·have hN : (bif decide (x < aA m.recs) then (aD m.recs x).bind fun l => some (decide (y < aA l)) else some false).getD false = true := hN
  by_cases A : x < (m.recs.length : Int)
  ·rw [aC, decide_eq_true A, yg] at hN
   obtain ⟨a, e, hm⟩ := fE J.1 A
   rw [e] at hN
   have Z : y < (a.length : Int) := of_decide_eq_true hN
   obtain ⟨b, W, K⟩ := fE J.2.2.1 Z
   simp only [qda, Int.reduceBEq, ye, yg, e, W, ya] at z
   obtain rfl := yb z
   exact IZ
  ·rw [aC, decide_eq_false A] at hN; cases hN
 ·obtain rfl := yb z; exact wX (AZ 3 (by omega))
 ·obtain rfl := yb z; exact wX (AZ 1 (by omega))
 ·obtain rfl := yb z; exact IZ
 ·obtain rfl := yb z; exact wX (AZ 1 (by omega))
 ·obtain rfl := yb z; exact wX (AZ 2 (by omega))
 ·obtain rfl := yb z; exact wX (AZ 1 (by omega))
 ·obtain rfl := yb z; exact IZ
 ·obtain rfl := yb z; exact wX (AZ 1 (by omega))
 ·obtain rfl := yb z; exact wX (AZ 1 (by omega))
 ·obtain rfl := yb z; exact wX (AZ 1 (by omega))
 ·simp only [qda, Int.reduceBEq, ye, yg] at z
  by_cases h : 1 ≤ s.length
  ·obtain ⟨q, t, rfl⟩ := nE h
   rw [yi, yz1] at N
   have Y : aD (q ++ [t]) (a8 .i64 (aA (q ++ [t])) 1) = some t := cR q [t] 1 0 (by simp; omega) rfl (by omega) (by simp)
   have H : a8 .i64 (aA (q ++ [t])) 1 = ((q.length : Nat) : Int) := by
    rw [aC, yi, bV (by simp <;> omega) (by simp <;> omega)]; simp
   rw [Y, H, aC, yi, yz1, decide_eq_false (by omega), decide_eq_true (by omega), decide_eq_true (by omega)] at z
   simp only [yg, ye, ya, yd2, yb1] at z
   cases h5 : t.1 != 5 <;> rw [h5] at z <;> (obtain rfl := yb z; exact IZ)
  ·rw [aC, decide_eq_true (by omega)] at z
   obtain rfl := yb z
   exact IZ
theorem MP {m : aW} {K pk : Nat} {f : iT} {i : B0} {s : List cQ} (A : b9 m = 0) (hf : m.funcs[K]? = some f) (H : f.2.2.2.2[pk]? = some i) (J : s.length ≤ 200) (z : Ft s) : Ft (eO m f i (pk : Int) s).1 ∧ (eO m f i (pk : Int) s).1.length ≤ 8 := by
 obtain ⟨_, _, M, _, _, _⟩ := z3 m K pk f i s A hf H J
 have O := Oi 10000 m f i s _ A (yj hf) (yj H) J z M
 unfold eO mU
 split
 ·exact ⟨IZ, by simp⟩
 ·rename_i h
  split
  ·exact ⟨IZ, by simp⟩
  ·refine ⟨fun t ht => ?_, ?_⟩
   ·rcases yy1.1 ht with h | h
    ·exact z t (List.mem_of_mem_take h)
    ·exact O t h
   ·simp only [yi, yl2]
    have : ¬ (s.length - (Br m f i s).1.length + (Br m f i s).2.1.length > 8) := fun N => h (.inr (.inr (.inl N)))
    omega
end Sx
end
section
namespace Sx
open Go Go.Ab
def A3 : List cQ → Nat
 | [] => 0
 | t :: r => E8 t + A3 r
def fX : List cQ → List cQ → List cQ
 | x :: s, y :: a => gO x y :: fX s a
 | _, _ => []
theorem Bt (x y : cQ) (s a : List cQ) : eB (x :: s) (y :: a) = (gG x y && eB s a) := by
 unfold eB KS
 simp only [ye1, List.zip_cons_cons, ye3, Nat.add_right_cancel_iff]
 cases gG x y <;> cases decide (s.length = a.length) <;> rfl
theorem Bq : ∀ (s a : List cQ), s.length = a.length → Ft s → Ft a → Ft (fX s a) ∧ (fX s a).length = s.length ∧ eB s (fX s a) = true ∧ eB a (fX s a) = true ∧ A3 s ≤ A3 (fX s a) ∧
  (fX s a ≠ s → A3 s < A3 (fX s a))
 | [], [], _, _, _ => ⟨IZ, rfl, rfl, rfl, yz _, fun h => absurd rfl h⟩
 | x :: s, y :: a, hl, H, A => by
  have z : s.length = a.length := by simpa using hl
  obtain ⟨K, O, V, U, i5, Z⟩ := Bq s a z (fun t ht => H t (yk _ ht)) (fun t ht => A t (yk _ ht))
  obtain ⟨N, M, W, j4, j5, J⟩ := I3 (H x (yn ..)) (A y (yn ..))
  refine ⟨fun t ht => ?_, by simp [fX, O], ?_, ?_, ?_, fun h => ?_⟩
  ·rcases yq1.1 ht with rfl | ht
   ·exact N
   ·exact K t ht
  ·show eB (x :: s) (gO x y :: fX s a) = true
   rw [Bt, M, V]; rfl
  ·show eB (y :: a) (gO x y :: fX s a) = true
   rw [Bt, W, U]; rfl
  ·show E8 x + A3 s ≤ E8 (gO x y) + A3 (fX s a)
   omega
  ·show E8 x + A3 s < E8 (gO x y) + A3 (fX s a)
   by_cases hx : gO x y = x
   ·have : fX s a ≠ s := fun Y => h (by show gO x y :: fX s a = x :: s; rw [hx, Y])
    have := Z this
    omega
   ·have := J hx
    omega
 | [], _ :: _, hl, _, _ => by simp at hl
 | _ :: _, [], hl, _, _ => by simp at hl
theorem PH (t : cQ) : E8 t ≤ 3 := by unfold E8; split <;> (try omega); split <;> (try omega); split <;> omega
theorem KW : ∀ s : List cQ, A3 s ≤ 3 * s.length
 | [] => by simp [A3]
 | t :: r => by
  have := KW r; have := PH t
  simp only [A3, ye1]; omega
theorem Ot (x y : cQ) : NW x y = true ↔ x = y := by
 unfold NW
 rw [yc, beq_iff_eq, beq_iff_eq]
 exact ⟨fun h => Prod.ext h.1 h.2, fun h => by rw [h]; exact ⟨rfl, rfl⟩⟩
theorem If (s a : List cQ) : KS NW s a = true ↔ s = a := by
 constructor
 ·intro h
  obtain ⟨h1, h2⟩ := Ch h
  exact List.ext_getElem h1 fun i A z => (Ot _ _).1 (h2 i A z)
 ·rintro rfl
  exact Hz s fun x _ => MM x
theorem Mi {a b : List cQ} (h : eB a b = true) : a.length = b.length := (Ch h).1
def Oz (x : dA) : Nat := if x.1 = true then 1 + A3 x.2 else 0
def mu : List dA → Nat
 | [] => 0
 | x :: r => Oz x + mu r
theorem MX : ∀ (l : List dA) (k : Nat) (x v : dA), l[k]? = some x → mu (l.set k v) + Oz x = mu l + Oz v
 | [], k, x, v, h => by simp at h
 | y :: r, 0, x, v, h => by
  obtain rfl : y = x := by simpa using h
  simp only [List.set_cons_zero, mu]; omega
 | y :: r, k + 1, x, v, h => by
  have := MX r k x v (by simpa using h)
  simp only [List.set_cons_succ, mu]; omega
structure q6 (L : Nat) (mp : List dA) : Prop where
 len : mp.length = L
 fst : mp[0]? = some (true, [])
 all : ∀ x ∈ mp, Ft x.2 ∧ x.2.length ≤ 8
theorem O8 : ∀ (l : List dA), (∀ x ∈ l, Ft x.2 ∧ x.2.length ≤ 8) → mu l ≤ 25 * l.length
 | [], _ => by simp [mu]
 | x :: r, h => by
  have h1 := O8 r fun y z => h y (yk _ z)
  have h2 := (h x (yn ..)).2
  have h3 := KW x.2
  have h4 : Oz x ≤ 25 := by unfold Oz; split <;> omega
  simp only [mu, ye1]; omega
def OI (a b : List dA) : Prop := a.length = b.length ∧ ∀ (k : Nat) (x : dA), a[k]? = some x → ∃ y : dA, b[k]? = some y ∧ (x.1 = true → y.1 = true ∧ eB x.2 y.2 = true)
theorem OI.refl (a : List dA) : OI a a := ⟨rfl, fun k x h => ⟨x, h, fun z => ⟨z, q9 _⟩⟩⟩
theorem OI.trans {a b c : List dA} (h : OI a b) (A : OI b c) : OI a c := ⟨h.1.trans A.1, fun k x hx => by
 obtain ⟨y, J, f⟩ := h.2 k x hx
 obtain ⟨z, H, g⟩ := A.2 k y J
 exact ⟨z, H, fun e => ⟨(g (f e).1).1, y6 (f e).2 (g (f e).1).2⟩⟩⟩
structure qE (c : Bool) (a : List dA) (c' : Bool) (b : List dA) : Prop where
 le : OI a b
 or : (c' = c ∧ b = a) ∨ (c' = true ∧ mu a < mu b)
theorem qE.refl (c : Bool) (a : List dA) : qE c a c a := ⟨OI.refl a, .inl ⟨rfl, rfl⟩⟩
theorem qE.trans {c A H : Bool} {a b d : List dA} (h : qE c a A b) (z : qE A b H d) : qE c a H d := ⟨h.le.trans z.le, by
 rcases h.or with ⟨rfl, rfl⟩ | ⟨h1, h2⟩
 ·exact z.or
 ·rcases z.or with ⟨rfl, rfl⟩ | ⟨J, h4⟩
  ·exact .inr ⟨h1, h2⟩
  ·exact .inr ⟨J, by omega⟩⟩
theorem Ij {L : Nat} {mp : List dA} (hI : q6 L mp) {k : Nat} {x v : dA} (z : mp[k]? = some x) (V : Ft v.2) (U : v.2.length ≤ 8) (h1 : v.1 = true) (M : x.1 = true → eB x.2 v.2 = true) (J : Oz x < Oz v) (c : Bool) :
  q6 L (mp.set k v) ∧ qE c mp true (mp.set k v) ∧ (mp.set k v)[k]? = some v := by
 have H : k < mp.length := (yh.1 z).1
 have O : (mp.set k v)[k]? = some v := by rw [yf1 H]
 refine ⟨⟨by rw [List.length_set]; exact hI.len, ?_, fun y A => ?_⟩, ⟨⟨by rw [List.length_set], fun j y A => ?_⟩, .inr ⟨rfl, ?_⟩⟩, O⟩
 ·by_cases N : k = 0
  ·subst N
   rw [hI.fst] at z
   obtain rfl := yb z
   exfalso
   have h2 := Mi (M rfl)
   have W : v.2 = [] := List.length_eq_zero_iff.1 h2.symm
   have Y : v = (true, []) := Prod.ext h1 W
   rw [Y] at J
   exact Nat.lt_irrefl _ J
  ·rw [yg1 N]; exact hI.fst
 ·rcases ym2 A with h | rfl
  ·exact hI.all y h
  ·exact ⟨V, U⟩
 ·by_cases K : k = j
  ·subst K
   rw [z] at A
   obtain rfl := yb A
   exact ⟨v, O, fun e => ⟨h1, M e⟩⟩
  ·exact ⟨y, by rw [yg1 K]; exact A, fun e => ⟨e, q9 _⟩⟩
 ·have := MX mp k x v z
  omega
theorem LZ {a b : List dA} (h : OI a b) {s : List cQ} {t : Int} (hn : dM a s t = true) : dM b s t = true := by
 unfold dM at hn ⊢
 cases hx : aD a t with
 | none => rw [hx] at hn; cases hn
 | some x =>
  rw [hx] at hn
  simp only [yc] at hn
  have z : 0 ≤ t ∧ a[t.toNat]? = some x := by
   unfold aD at hx
   by_cases A : 0 ≤ t
   ·refine ⟨A, ?_⟩
    simpa [A] using hx
   ·simp [A] at hx
  obtain ⟨y, H, f⟩ := h.2 _ x z.2
  have : aD b t = some y := by
   obtain ⟨k, rfl⟩ := Int.eq_ofNat_of_zero_le z.1
   rw [aE]; simpa using H
  rw [this]
  simp only [yc]
  exact ⟨(f hn.1).1, y6 hn.2 (f hn.1).2⟩
end Sx
end
section
namespace Sx
open Go Go.Ab
theorem KT (n : Nat) (O : Int) (U : Bool) (M : Int) (J : List Int) (A : Int) (H : Nat) (m : aW) (N : List (List dA)) (V : List dA) : ∀ (s a h z : List cQ) (j : Nat), h.length = z.length → s.length = a.length → z.length + a.length ≤ 1000 → a.length < j →
  aK (fun s => qdp_B8 n s.1.1 s.1.2.1 s.1.2.2.1 s.1.2.2.2.1 s.1.2.2.2.2.1 s.1.2.2.2.2.2.1 s.1.2.2.2.2.2.2.1 s.1.2.2.2.2.2.2.2 s.2.1.1 s.2.1.2.1 s.2.1.2.2.1 s.2.1.2.2.2.1 s.2.1.2.2.2.2 s.2.2.1 s.2.2.2.1 s.2.2.2.2) j
   ((O, (U, (M, (z ++ a, (J, (A, (H, ((z.length : Nat) : Int)))))))), (aJ m, (N, (V, h ++ s)))) = some ((O, (U, (M, (z ++ a, (J, (A, H)))))), (aJ m, (N, (V, h ++ fX s a))))
 | [], [], h, z, j + 1, h1, _, W, _ => by
  refine bG ?_
  show qdp_B8 n O U M (z ++ []) J A H ((z.length : Nat) : Int) m.recs m.funcs m.imps m.ints m.texts N V (h ++ []) = _
  unfold qdp_B8
  rw [aC, decide_eq_false (by simp), ye]
  rfl
 | x :: s, y :: a, h, z, j + 1, h1, h2, W, h4 => by
  have g1 : (h ++ x :: s)[z.length]? = some x := by rw [← h1]; simp
  have g2 : aD (z ++ y :: a) ((z.length : Nat) : Int) = some y := by rw [aE]; simp
  have Z : ∀ v, (h ++ x :: s).set z.length v = h ++ v :: s := fun v => by rw [← h1]; simp
  have K : qdp_B8 n O U M (z ++ y :: a) J A H ((z.length : Nat) : Int) m.recs m.funcs m.imps m.ints m.texts N V (h ++ x :: s)
    = some (Sum.inl ((O, (U, (M, (z ++ y :: a, (J, (A, (H, ((z.length + 1 : Nat) : Int)))))))), (aJ m, (N, (V, h ++ gO x y :: s))))) := by
   have e1 : decide (((z.length : Nat) : Int) < (((h ++ x :: s).length : Nat) : Int)) = true := decide_eq_true (by rw [yi, h1, ye1]; omega)
   unfold qdp_B8
   rw [aC, decide_eq_true (by rw [yi, ye1]; omega), yg, e1, decide_eq_true (by omega), yd2, yg, yb1, g1, ya, g2, ya, H4, ya,
    yg, yw2 (by rw [yi, h1, ye1]; omega), yg, Z, cK (by simp only [ye1] at W; omega) (by simp only [ye1] at W; omega)]
   rfl
  refine (bM K).trans ?_
  have Y := KT n O U M J A H m N V s a (h ++ [gO x y]) (z ++ [y]) j (by simp [h1]) (by simpa using h2) (by simp only [yi, ye1, yd3] at W ⊢; omega) (by simp only [ye1] at h4; omega)
  rw [yw1, yw1, yw1, yi] at Y
  exact Y
 | [], _ :: _, _, _, _, _, h2, _, _ => by simp at h2
 | _ :: _, [], _, _, _, _, h2, _, _ => by simp at h2
theorem MQ (n : Nat) (hn : 100 ≤ n) (N : Int) (O : Bool) (M : Int) (z : List Int) (H : Int) (A : Nat) (m : aW) (J : List (List dA)) (K : List dA) (s a : List cQ) (hl : s.length = a.length) (h8 : a.length ≤ 8) :
  qdp_W8 n ((N, (O, (M, (a, (z, (H, (A, 0))))))), (aJ m, (J, (K, s)))) = some ((N, (O, (M, (a, (z, (H, A)))))), (aJ m, (J, (K, fX s a)))) := by
 have h := KT n N O M z H A m J K s a [] [] n rfl hl (by simp; omega) (by omega)
 exact h
theorem wQ {mp : List dA} {k : Nat} {v : dA} {h : List cQ} (z : mp[k]? = some v) (h1 : v.1 = true) (h2 : eB h v.2 = true) : dM mp h (k : Int) = true := by
 unfold dM
 rw [aE, z]
 simp only [h1, h2, yd2]
theorem N9 (m : aW) {L : Nat} {mp : List dA} (hI : q6 L mp) (Y W : Int) (O : Bool) (U : List (List dA)) (z : List cQ) (to : List Int) (hw : Ft z) (h8 : z.length ≤ 8) (i : Nat) (t : Int) (ht : to[i]? = some t) (h0 : 0 ≤ t) (hL : t < (L : Int)) (hL64 : L ≤ 64) (h10 : to.length ≤ 10) :
  (∃ M : Bool × List dA, qdp_B6 10000 Y O W z to (i : Int) m.recs m.funcs m.imps m.ints m.texts U mp = some (Sum.inl ((Y, (M.1, (W, (z, (to, ((i + 1 : Nat) : Int)))))), (aJ m, (U, M.2)))) ∧ q6 L M.2 ∧ qE O mp M.1 M.2 ∧ dM M.2 z t = true) ∨
  qdp_B6 10000 Y O W z to (i : Int) m.recs m.funcs m.imps m.ints m.texts U mp = some (Sum.inr (Sum.inl (([], false), (aJ m, (U, mp))))) := by
 obtain ⟨k, rfl⟩ := Int.eq_ofNat_of_zero_le h0
 have V : k < mp.length := by rw [hI.len]; omega
 obtain ⟨x, hx⟩ : ∃ x, mp[k]? = some x := ⟨_, yd V⟩
 have hi : i < to.length := (yh.1 ht).1
 have Z := hI.all x (yj hx)
 unfold qdp_B6
 rw [aC, decide_eq_true (by omega), yg, aE, ht, ya, decide_eq_true (by omega), decide_eq_true (by omega), yd2, yg, yb1, hx, ya]
 cases J : x.1 with
 | false =>
  refine .inl ⟨(true, mp.set k (true, z)), ?_, ?_⟩
  ·simp only [yx2, yg, ya]
   rw [yf1 V, ya, List.set_set, cK (by omega) (by omega)]
   rfl
  ·have := Ij hI hx (v := (true, z)) hw h8 rfl (fun e => by rw [J] at e; cases e) (by simp [Oz, J]; omega) O
   exact ⟨this.1, this.2.1, wQ this.2.2 rfl (q9 _)⟩
 | true =>
  simp only [yw, ye, ya]
  rw [vI]
  by_cases H : x.2.length = z.length
  ·rw [decide_eq_true H, yw, ye, yw2 (by omega), yg, MQ 10000 (by omega) Y O W to (i : Int) k m U mp x.2 z H h8, ya]
   obtain ⟨j1, j2, j3, j4, j5, j6⟩ := Bq x.2 z H Z.1 hw
   show (∃ M : Bool × List dA, ((mp[k]?).bind fun A => (qcq 10000 (fX x.2 z) A.2).bind fun N => _) = _ ∧ _) ∨ ((mp[k]?).bind fun A => (qcq 10000 (fX x.2 z) A.2).bind fun N => _) = _
   rw [hx, ya, Fd 10000 _ _ (by omega) (by omega), ya]
   refine .inl ?_
   cases he : KS NW (fX x.2 z) x.2 with
   | true =>
    have K := (If _ _).1 he
    refine ⟨(O, mp), ?_, hI, qE.refl _ _, wQ hx J (by rw [← K]; exact j4)⟩
    simp only [yw, ye]
    rw [cK (by omega) (by omega)]
    rfl
   | false =>
    have K : fX x.2 z ≠ x.2 := fun h => by rw [(If _ _).2 h] at he; cases he
    refine ⟨(true, mp.set k (x.1, fX x.2 z)), ?_, ?_⟩
    ·simp only [yx2, yg, ya]
     rw [cK (by omega) (by omega)]
     rfl
    ·have := Ij hI hx (v := (x.1, fX x.2 z)) j1 (by rw [j2]; omega) J (fun _ => j3) (by simp only [Oz, J, if_true]; have := j6 K; omega) O
     exact ⟨this.1, this.2.1, wQ this.2.2 J j4⟩
  ·rw [decide_eq_false H, yx2, yg]
   exact .inr rfl
theorem On (m : aW) {L : Nat} {mp : List dA} (hI : q6 L mp) (M K : Int) (W : Bool) (H : List (List dA)) (z : List cQ) (to : List Int) (hw : Ft z) (h8 : z.length ≤ 8) (ht : ∀ t ∈ to, 0 ≤ t ∧ t < (L : Int)) (N : L ≤ 64) (h10 : to.length ≤ 10) :
  ∃ y, qdp_W6 10000 ((M, (W, (K, (z, (to, 0))))), (aJ m, (H, mp))) = some y ∧ ((∃ A, y = Sum.inl (([], false), (aJ m, (H, A)))) ∨
   ∃ U A, y = Sum.inr ((M, (U, K)), (aJ m, (H, A))) ∧ q6 L A ∧ qE W mp U A ∧ ∀ t ∈ to, dM A z t = true) := by
 refine dL (xs := to) (mk := fun i (a : Bool × List dA) => ((M, (a.1, (K, (z, (to, (i : Int)))))), (aJ m, (H, a.2)))) (I := fun i a => q6 L a.2 ∧ qE W mp a.1 a.2 ∧ ∀ (k : Nat) (t : Int), k < i → to[k]? = some t → dM a.2 z t = true) ?_ ?_ to.length 0 10000 (W, mp) (by omega) ⟨hI, qE.refl _ _, fun k t V => by omega⟩ (by omega)
 ·rintro i ⟨c, l⟩ t J ⟨Y, i2, i3⟩
  have O := ht t (yj J)
  rcases N9 m Y M K c H z to hw h8 i t J O.1 O.2 N h10 with ⟨a', h1, h2, h3, h4⟩ | h
  ·refine .inl ⟨a', h1, h2, i2.trans h3, fun k u V hu => ?_⟩
   by_cases hki : k = i
   ·subst hki
    rw [J] at hu
    obtain rfl := yb hu
    exact h4
   ·exact LZ h3.le (i3 k u (by omega) hu)
  ·exact .inr ⟨_, h, .inl ⟨l, rfl⟩⟩
 ·rintro ⟨c, l⟩ ⟨Y, i2, i3⟩
  refine ⟨Sum.inr ((M, (c, K)), (aJ m, (H, l))), ?_, .inr ⟨c, l, rfl, Y, i2, fun t Z => ?_⟩⟩
  ·show qdp_B6 10000 M c K z to (to.length : Int) m.recs m.funcs m.imps m.ints m.texts H l = _
   unfold qdp_B6
   rw [aC, decide_eq_false (by omega), ye]
  ·obtain ⟨k, V⟩ := List.mem_iff_getElem?.1 Z
   exact i3 k t (yh.1 V).1 V
end Sx
end
