/- Plain laws. -/
import Derived.Test.YtdlbbdbbpoggfaaGreatDoorLib8
import Derived.Test.YtdlbbdbbpoggfaaGreatDoorOsSh
set_option linter.unusedVariables false
set_option linter.unusedSimpArgs false
section
namespace Sx
open Go Go.Ab
theorem cO {A : Type} {xs : List A} {i : Nat} {x : A} (h : xs[i]? = some x) : i < xs.length := (yh.1 h).1
theorem loop_two {A B' X S : Type} {xs : List A} {ys : List B'} {B : S → Option (S ⊕ X)} {mk : Nat → S} {p : A → B' → Bool} {found : Nat → A → B' → X} {e : X} (H : xs.length = ys.length)
  (M : ∀ i x y, xs[i]? = some x → ys[i]? = some y → B (mk i) = (if p x y = true then some (.inl (mk (i + 1))) else some (.inr (found i x y))))
  (U : B (mk xs.length) = some (.inr e)) (n : Nat) (hn : xs.length < n) :
  ((xs.zip ys).all (fun q => p q.1 q.2) = true ∧ aL B n (mk 0) = some e) ∨ ((xs.zip ys).all (fun q => p q.1 q.2) = false ∧ ∃ i x y, aL B n (mk 0) = some (found i x y)) := by
 have O : (xs.zip ys).length = xs.length := by simp [H]
 have h := bA (xs := xs.zip ys) (B := B) (mk := mk) (p := fun q => !p q.1 q.2) (found := fun i q => found i q.1 q.2) (e := e) (fun i q z => ?_) (by rw [O]; exact U) xs.length 0 n (by omega) hn
 ·rw [yl1] at h
  have J : (xs.zip ys).all (fun q => p q.1 q.2) = !(xs.zip ys).any (fun q => !p q.1 q.2) := by rw [yr2]
  rcases h with ⟨h1, k, q, _, _, h2⟩ | ⟨h1, h2⟩
  ·exact .inr ⟨by rw [J, h1]; rfl, k, q.1, q.2, h2⟩
  ·exact .inl ⟨by rw [J, h1]; rfl, h2⟩
 ·have K : i < (xs.zip ys).length := cO z
  rw [yd K] at z
  have z := yb z
  rw [yq3] at z
  have hx : xs[i]? = some q.1 := by rw [← z, yd]
  have N : ys[i]? = some q.2 := by rw [← z, yd]
  rw [M i q.1 q.2 hx N]
  cases p q.1 q.2 <;> rfl
def KF {A : Type} (p : A → A → Bool) (xs ys : List A) : Bool := decide (xs.length = ys.length) && (xs.zip ys).all (fun q => p q.1 q.2)
theorem vF {A B : Type} (a : List A) (b : List B) : (aA a != aA b) = !decide (a.length = b.length) := by
 rw [aC, aC]
 by_cases h : a.length = b.length
 ·simp [h]
 ·rw [decide_eq_false h]
  show (!((a.length : Int) == (b.length : Int))) = !false
  rw [beq_eq_false_iff_ne.2 (by omega)]
theorem IK {A : Type} {p : A → A → Bool} (xs : List A) (h : ∀ x ∈ xs, p x x = true) : KF p xs xs = true := by
 unfold KF
 rw [decide_eq_true rfl, yu, yx]
 intro q z
 obtain ⟨i, hi, rfl⟩ := yp1 z
 rw [yq3]
 exact h _ (yu2 _)
theorem Cc {A : Type} {p : A → A → Bool} {xs ys : List A} (h : KF p xs ys = true) : xs.length = ys.length ∧ ∀ i (h1 : i < xs.length) (h2 : i < ys.length), p xs[i] ys[i] = true := by
 unfold KF at h
 rw [yc, decide_eq_true_eq, yx] at h
 refine ⟨h.1, fun i h1 h2 => ?_⟩
 have := h.2 (xs[i], ys[i]) (by
  have z : i < (xs.zip ys).length := by simp; omega
  have : (xs.zip ys)[i] = (xs[i], ys[i]) := by rw [yq3]
  rw [← this]; exact yu2 z)
 exact this
theorem Pe {A : Type} {p : A → A → Bool} {xs ys : List A} (hl : xs.length = ys.length) (h : ∀ i (h1 : i < xs.length) (h2 : i < ys.length), p xs[i] ys[i] = true) : KF p xs ys = true := by
 unfold KF
 rw [yc, decide_eq_true_eq, yx]
 refine ⟨hl, fun q z => ?_⟩
 obtain ⟨i, H, rfl⟩ := yp1 z
 rw [yq3]
 simp at H
 exact h i (by omega) (by omega)
end Sx
end
section
namespace Sx
open Go Go.Ab
def oK (t : Int × Int) : Bool := t.1 == 2 || (t.1 == 3 || (t.1 == 4 || (t.1 == 6 || t.1 == 7)))
def gF (a b : Int × Int) : Bool := (a.1 == b.1 && a.2 == b.2) || (b.1 == 8 || (oK a && (oK b && (a.1 == 6 || b.1 == 7))))
theorem qeo_eq (n : Nat) (t : Int × Int) : qeo n t.1 t.2 = some (oK t) := by
 unfold qeo oK
 cases t.1 == 2 <;> cases t.1 == 3 <;> cases t.1 == 4 <;> cases t.1 == 6 <;> cases t.1 == 7 <;> rfl
theorem r8 (n : Nat) (t : Int × Int) : qeb n t.1 t.2 = some (oK t) := by
 unfold qeb oK
 cases t.1 == 2 <;> cases t.1 == 3 <;> cases t.1 == 4 <;> cases t.1 == 6 <;> cases t.1 == 7 <;> rfl
theorem qem_eq (n : Nat) (a b : Int × Int) : qem n a.1 a.2 b.1 b.2 = some (gF a b) := by
 unfold qem gF
 rw [qeo_eq n a, qeo_eq n b]
 simp only [ya]
 cases (a.1 == b.1 && a.2 == b.2) <;> cases b.1 == 8 <;> cases oK a <;> cases oK b <;> cases a.1 == 6 <;> rfl
theorem sN (n : Nat) (a b : Int × Int) : qdw n a.1 a.2 b.1 b.2 = some (gF a b) := by
 unfold qdw gF
 rw [r8 n a, r8 n b]
 simp only [ya]
 cases (a.1 == b.1 && a.2 == b.2) <;> cases b.1 == 8 <;> cases oK a <;> cases oK b <;> cases a.1 == 6 <;> rfl
theorem AR (a : Int × Int) : gF a a = true := by simp [gF]
theorem oA (a b : Int × Int) : gF a b = true ↔ a = b ∨ b.1 = 8 ∨ (oK a = true ∧ oK b = true ∧ (a.1 = 6 ∨ b.1 = 7)) := by
 unfold gF
 simp only [yc2, yc, beq_iff_eq]
 have : (a.1 = b.1 ∧ a.2 = b.2) ↔ a = b := by
  constructor
  ·intro h; exact Prod.ext h.1 h.2
  ·rintro rfl; exact ⟨rfl, rfl⟩
 rw [this]
theorem HL (t : Int × Int) : oK t = true ↔ t.1 = 2 ∨ t.1 = 3 ∨ t.1 = 4 ∨ t.1 = 6 ∨ t.1 = 7 := by simp [oK]
theorem Kq {a b c : Int × Int} (h : gF a b = true) (A : gF b c = true) : gF a c = true := by
 rw [oA] at h A ⊢
 rcases A with rfl | A | ⟨h1, h2, z⟩
 ·exact h
 ·exact .inr (.inl A)
 ·rcases h with rfl | h | ⟨H, g2, g3⟩
  ·exact .inr (.inr ⟨h1, h2, z⟩)
  ·rw [HL] at h1; omega
  ·refine .inr (.inr ⟨H, h2, ?_⟩)
   rcases z with z | z
   ·left; omega
   ·exact .inr z
def eB (a b : List (Int × Int)) : Bool := KF gF a b
theorem rM (a : List (Int × Int)) : eB a a = true := IK a fun x _ => AR x
theorem y7 {a b c : List (Int × Int)} (h : eB a b = true) (H : eB b c = true) : eB a c = true := by
 obtain ⟨l1, z⟩ := Cc h
 obtain ⟨l2, A⟩ := Cc H
 exact Pe (by omega) fun i h1 h2 => Kq (z i h1 (by omega)) (A i (by omega) h2)
theorem qbv_eq (n : Nat) (a b : List (Int × Int)) (ha : a.length ≤ 5000) (hn : 6000 ≤ n) : qbv n a b = some (eB a b) := by
 unfold qbv qam eB KF
 rw [vF]
 by_cases hl : a.length = b.length
 ·rw [decide_eq_true hl, yw, ye, yu]
  have h := loop_two (B := fun s => qam_B0 n s.1 s.2.1 s.2.2.1 s.2.2.2) (mk := fun (i : Nat) => (b, (a, (aA a, (i : Int))))) (p := gF) (found := fun i x y => Sum.inl (false, (x, y))) (e := Sum.inr ()) hl (fun i x y hx z => ?_) ?_ n (by omega)
  ·rcases h with ⟨h1, h2⟩ | ⟨h1, i, x, y, h2⟩
   ·rw [show qam_W0 n (b, (a, (aA a, 0))) = _ from h2, h1]; rfl
   ·rw [show qam_W0 n (b, (a, (aA a, 0))) = _ from h2, h1]; rfl
  ·have hi := cO hx
   show qam_B0 n b a (aA a) (i : Int) = _
   unfold qam_B0
   rw [aC, decide_eq_true (by omega), yg, aE, hx, ya, aE, z, ya, qem_eq n x y, ya, aH (by omega)]
   cases gF x y <;> rfl
  ·show qam_B0 n b a (aA a) (a.length : Int) = _
   unfold qam_B0
   rw [aC, decide_eq_false (by omega), ye]
 ·rw [decide_eq_false hl]; rfl
theorem HC (n : Nat) (a b : List (Int × Int)) (ha : a.length ≤ 5000) (hn : 6000 ≤ n) : qbr n a b = some (eB a b) := by
 unfold qbr eB KF
 rw [vF]
 by_cases hl : a.length = b.length
 ·rw [decide_eq_true hl, yw, ye, yu]
  have h := loop_two (B := fun s => qbr_B0 n s.1 s.2.1 s.2.2) (mk := fun (i : Nat) => (a, (b, (i : Int)))) (p := gF) (found := fun i x y => Sum.inl false) (e := Sum.inr ()) hl (fun i x y hx z => ?_) ?_ n (by omega)
  ·rcases h with ⟨h1, h2⟩ | ⟨h1, i, x, y, h2⟩
   ·rw [show qbr_W0 n (a, (b, 0)) = _ from h2, h1]; rfl
   ·rw [show qbr_W0 n (a, (b, 0)) = _ from h2, h1]; rfl
  ·have hi := cO hx
   show qbr_B0 n a b (i : Int) = _
   unfold qbr_B0
   rw [aC, decide_eq_true (by omega), yg, aE, hx, ya, aE, z, ya, sN n x y, ya, aH (by omega)]
   cases gF x y <;> rfl
  ·show qbr_B0 n a b (a.length : Int) = _
   unfold qbr_B0
   rw [aC, decide_eq_false (by omega), ye]
 ·rw [decide_eq_false hl]; rfl
def AS (a l : List (Int × Int)) (k : Int) : Int × Int := if 0 ≤ k ∧ k < (a.length + l.length : Int) then (a ++ l).getD k.toNat (8, 0) else (8, 0)
theorem qcx_eq (n : Nat) (a : List (Int × Int)) (A r1 : Int) (l : List (Int × Int)) (c : List (Int × Int × Int)) (k : Int) (hl : a.length + l.length ≤ 4294967296) : qcx n a A r1 l c k = some (AS a l k) := by
 unfold qcx AS
 rw [aC, aC, cN (by omega) (by omega)]
 by_cases z : k ≥ 0
 ·rw [decide_eq_true z]
  simp only [yg]
  obtain ⟨j, rfl⟩ : ∃ j : Nat, k = (j : Int) := ⟨k.toNat, by omega⟩
  by_cases h1 : (j : Int) < (a.length : Int)
  ·have h : j < a.length := by omega
   rw [decide_eq_true h1, yg, aE, if_pos (by omega), yb1, yd h, ya, yl, yq h, yd h]
   rfl
  ·rw [decide_eq_false h1, ye]
   by_cases h2 : (j : Int) < (a.length : Int) + (l.length : Int)
   ·have h : j - a.length < l.length := by omega
    rw [decide_eq_true h2, yg, if_pos (by omega), bW (by omega) (by omega)]
    have : (j : Int) - (a.length : Int) = ((j - a.length : Nat) : Int) := by omega
    rw [this, aE, yd h, ya, yb1, yl, yt (by omega), yd h]
    rfl
   ·rw [decide_eq_false h2, ye, if_neg (by omega)]
 ·rw [decide_eq_false z]
  simp only [ye]
  rw [if_neg (by omega)]
theorem iO (n : Nat) (a : List (Int × Int)) (A r1 : Int) (l : List (Int × Int)) (c : List (Int × Int × Int)) (k : Int) (hl : a.length + l.length ≤ 4294967296) : qcb n a A r1 l c k = some (AS a l k) := by
 unfold qcb AS
 rw [aU (by omega), yg, aU (by rw [yi]; omega), yg, aC, yi]
 by_cases h : k < 0
 ·rw [decide_eq_true h, yg, if_neg (by omega)]
 ·rw [decide_eq_false h, ye]
  obtain ⟨j, rfl⟩ : ∃ j : Nat, k = (j : Int) := ⟨k.toNat, by omega⟩
  by_cases h1 : (j : Int) ≥ ((a.length + l.length : Nat) : Int)
  ·rw [decide_eq_true h1, yg, if_neg (by omega)]
  ·have z : j < (a ++ l).length := by rw [yi]; omega
   rw [decide_eq_false h1, ye, decide_eq_true (by omega : (0 : Int) ≤ (j : Int)), decide_eq_true (by omega : (j : Int) < ((a.length + l.length : Nat) : Int)), yd2, yg, if_pos (by omega), yb1, yd z,
    ya, yl, yd z]
   rfl
end Sx
end
section
namespace Sx
open Go Go.Ab
def Da : Nat → Nat → List Int
 | 0, v => [(v : Int)]
 | k + 1, v => if v < 128 then [(v : Int)] else ((128 + v % 128 : Nat) : Int) :: Da k (v / 128)
def bJ (v : Nat) : List Int := Da 10 v
theorem D7 : ∀ (k v : Nat), 1 ≤ (Da k v).length ∧ (Da k v).length ≤ k + 1
 | 0, v => ⟨yz _, yz _⟩
 | k + 1, v => by
  unfold Da
  split
  ·exact ⟨by simp, by simp⟩
  ·have := D7 k (v / 128)
   rw [ye1]; omega
theorem aS (v : Nat) : 1 ≤ (bJ v).length ∧ (bJ v).length ≤ 11 := D7 10 v
theorem Qe (v : Nat) : P4 .u8 (aY .u8 (v : Int)) 128 = ((128 + v % 128 : Nat) : Int) := by
 rw [BJ]
 have h : ∀ m : Nat, m < 256 → P4 .u8 (m : Int) 128 = ((128 + m % 128 : Nat) : Int) := by decide +kernel
 have := h (v % 256) (by omega)
 rw [show ((v : Int) % 256) = ((v % 256 : Nat) : Int) by omega, this]
 omega
theorem QA (v : Nat) : Mj .u64 (v : Int) 7 = ((v / 128 : Nat) : Int) := by
 show (v : Int).fdiv (2 ^ (min (7 : Int).toNat 64)) = _
 rw [show ((2 : Int) ^ (min (7 : Int).toNat 64)) = 128 from rfl, Int.fdiv_eq_ediv_of_nonneg _ (by omega)]
 omega
theorem qeq_loop (n : Nat) : ∀ (k v m : Nat) (acc : List Int), v < 128 ^ (k + 1) → acc.length + k ≤ 4294967000 → k < m → ∃ r, aL (fun s => qeq_B0 n s.1 s.2) m ((v : Int), acc) = some r ∧ 0 ≤ r.1 ∧ r.1 ≤ 127 ∧ r.2 ++ [r.1] = acc ++ Da k v ∧ r.2.length ≤ acc.length + k
 | 0, v, m + 1, acc, z, A, hm => by
  refine ⟨((v : Int), acc), bG ?_, by omega, by simp only []; omega, rfl, by simp⟩
  show qeq_B0 n (v : Int) acc = _
  unfold qeq_B0
  rw [decide_eq_false (by omega), ye]
 | k + 1, v, m + 1, acc, z, A, hm => by
  by_cases h : v < 128
  ·refine ⟨((v : Int), acc), bG ?_, by omega, by simp only []; omega, by simp [Da, h], by simp⟩
   show qeq_B0 n (v : Int) acc = _
   unfold qeq_B0
   rw [decide_eq_false (by omega), ye]
  ·have J : qeq_B0 n (v : Int) acc = some (Sum.inl (((v / 128 : Nat) : Int), acc ++ [((128 + v % 128 : Nat) : Int)])) := by
    unfold qeq_B0
    rw [decide_eq_true (by omega), yg, Qe, QA, aU (by simp; omega), yg]
   rw [bM (s := ((v : Int), acc)) J]
   obtain ⟨r, h1, h2, H, M, K⟩ := qeq_loop n k (v / 128) m (acc ++ [((128 + v % 128 : Nat) : Int)]) (by rw [Nat.pow_succ] at z; omega) (by simp; omega) (by omega)
   refine ⟨r, h1, h2, H, ?_, by simp at K; omega⟩
   rw [M, Da, if_neg h]
   simp
 | _, _, 0, _, _, _, hm => by omega
theorem qeq_eq (n v : Nat) (hv : v < 18446744073709551616) (hn : 20 ≤ n) : qeq n (v : Int) = some (bJ v) := by
 unfold qeq
 obtain ⟨r, h1, h2, h3, h, h5⟩ := qeq_loop n 10 v n [] (by omega) (by simp) (by omega)
 rw [show qeq_W0 n ((v : Int), []) = some r from h1, ya, pS h2 (by omega), h, aU (by have := aS v; simp [bJ] at this; simp; omega), yg]
 rfl
theorem PA {v : Nat} (hv : v < 18446744073709551616) : My .u64 (v : Int) 128 = ((v / 128 : Nat) : Int) := by
 show IntKind.u64.wrap ((v : Int).tdiv 128) = _
 rw [Int.tdiv_eq_ediv_of_nonneg (by omega), zH]
 omega
theorem IX (n : Nat) : ∀ (k v d : Nat), v < 128 ^ (k + 1) → v < 18446744073709551616 → k < d → k ≤ 11 → qeh_D n d (v : Int) = some (Da k v)
 | 0, v, d + 1, H, z, A, J => by
  show qeh_S n (qeh_D n d) (v : Int) = _
  unfold qeh_S
  rw [decide_eq_true (by omega), yg, pS (by omega) (by omega)]; rfl
 | k + 1, v, d + 1, H, z, A, J => by
  show qeh_S n (qeh_D n d) (v : Int) = _
  unfold qeh_S
  by_cases h : v < 128
  ·rw [decide_eq_true (by omega), yg, pS (by omega) (by omega), Da, if_pos h]
  ·have hl := D7 k (v / 128)
   rw [decide_eq_false (by omega), ye, PA z, IX n k (v / 128) d (by rw [Nat.pow_succ] at H; omega) (by omega) (by omega) (by omega), ya, A9 (by omega)]
   have h1 : aI .u64 128 ((v : Int) % 128) = ((128 + v % 128 : Nat) : Int) := by
    show IntKind.u64.wrap _ = _
    rw [zH]; omega
   rw [h1, pS (by omega) (by omega), aU (by simp; omega), yg, Da, if_neg h]
   rfl
 | _, _, 0, _, _, A, _ => by omega
theorem dS (n v : Nat) (h : v < 18446744073709551616) (hn : 20 ≤ n) : qeh n (v : Int) = some (bJ v) := IX n 10 v n (by omega) h (by omega) (by omega)
def s5 (k v : Nat) : List Int := (List.range k).map fun i => ((v / 256 ^ i % 256 : Nat) : Int)
theorem l6 (k v : Nat) : (s5 k v).length = k := by simp [s5]
def FL (k : Int) : Nat := k.toNat
def kH (t : Int × Int) : List Int := bJ (FL t.1) ++ bJ (FL t.2)
theorem fH (t : Int × Int) : (kH t).length ≤ 22 := by
 have := aS (FL t.1)
 have := aS (FL t.2)
 rw [kH, yi]; omega
def Oh (x : Int) : Prop := -9223372036854775808 ≤ x ∧ x ≤ 9223372036854775807
def PL (t : Int × Int) : Prop := Oh t.1 ∧ Oh t.2
theorem MN {k : Int} (h : Oh k) : FL k < 18446744073709551616 := by
 unfold FL; unfold Oh at h; omega
theorem Pb {k : Int} (h : Oh k) : aY .u64 (Iz k 0) = ((FL k : Nat) : Int) := by
 unfold Iz FL; unfold Oh at h
 by_cases h0 : k < 0
 ·rw [decide_eq_true (by omega), yg]
  have : k.toNat = 0 := by omega
  rw [this]; rfl
 ·rw [decide_eq_false (by omega), ye, cW (by omega) (by omega)]; omega
theorem qen_eq (n : Nat) (t : Int × Int) (ht : PL t) (hn : 20 ≤ n) : qen n t.1 t.2 = some (kH t) := by
 unfold qen
 have hl := fH t
 rw [Pb ht.1, Pb ht.2, qeq_eq n _ (MN ht.1) hn, ya, qeq_eq n _ (MN ht.2) hn, ya]
 show (bif Nat.ble (kH t).length 4294967296 then some (kH t) else none) = _
 rw [aU (by omega), yg]
theorem wH (n : Nat) (t : Int × Int) (ht : PL t) (hn : 20 ≤ n) : qcu n t.1 t.2 = some (kH t) := by
 have hl := fH t
 have H : ∀ {k : Int}, Oh k → k < 0 → qeh n (aY .u64 0) = some (bJ (FL k)) := by
  intro k J h
  rw [show aY .u64 0 = ((0 : Nat) : Int) from rfl, dS n 0 (by omega) hn]
  have : FL k = 0 := by unfold FL; omega
  rw [this]
 have h1 : ∀ {k : Int}, Oh k → ¬ k < 0 → qeh n (aY .u64 k) = some (bJ (FL k)) := by
  intro k J h
  unfold Oh at J
  have : aY .u64 k = ((FL k : Nat) : Int) := by
   rw [cW (by omega) (by omega)]; unfold FL; omega
  rw [this, dS n _ (by unfold FL; omega) hn]
 have fin : (bif Nat.ble (bJ (FL t.1) ++ bJ (FL t.2)).length 4294967296 then some (bJ (FL t.1) ++ bJ (FL t.2)) else none) = some (kH t) := by
  show (bif Nat.ble (kH t).length 4294967296 then some (kH t) else none) = _
  rw [aU (by omega), yg]
 unfold qcu
 by_cases z : t.1 < 0
 ·by_cases A : t.2 < 0
  ·rw [decide_eq_true z, yg, decide_eq_true A, yg, H ht.1 z, ya]
   have := H ht.2 A
   rw [H ht.1 z] at this
   rw [ya, yb this, ← yb this]
   rw [yb this] at fin ⊢
   exact fin
  ·rw [decide_eq_true z, yg, decide_eq_false A, ye, H ht.1 z, ya, h1 ht.2 A, ya]
   exact fin
 ·by_cases A : t.2 < 0
  ·rw [decide_eq_false z, ye, decide_eq_true A, yg, h1 ht.1 z, ya, H ht.2 A, ya]
   exact fin
  ·rw [decide_eq_false z, ye, decide_eq_false A, ye, h1 ht.1 z, ya, h1 ht.2 A, ya]
   exact fin
def fF (recs : Int) (t : Int × Int) : Bool :=
 if t.1 = 1 ∨ t.1 = 2 ∨ t.1 = 3 ∨ t.1 = 7 then t.2 == 0 else if t.1 = 4 then decide (0 ≤ t.2 ∧ t.2 < recs) else if t.1 = 5 then decide (0 ≤ t.2 ∧ t.2 < 4) else false
theorem Cd (n : Nat) (t : Int × Int) (recs : Int) : qed n t.1 t.2 recs = some (fF recs t) := by
 obtain ⟨k, m⟩ := t
 unfold qed fF
 simp only [yr3, beq_iff_eq, decide_eq_true_eq]
 by_cases h1 : k = 1
 ·simp [h1]
 by_cases h2 : k = 2
 ·simp [h2]
 by_cases z : k = 3
 ·simp [z]
 by_cases h : k = 7
 ·simp [h]
 by_cases H : k = 4
 ·by_cases hm : 0 ≤ m <;> simp [H, hm]
 by_cases A : k = 5
 ·by_cases hm : 0 ≤ m <;> simp [A, hm]
 simp [h1, h2, z, H, A, h]
theorem wF (n : Nat) (t : Int × Int) (recs : Int) : qde n t.1 t.2 recs = some (fF recs t) := Cd n t recs
end Sx
end
section
namespace Sx
open Go Go.Ab
def eN (op : Int) : Int :=
 if op < 0 ∨ 42 ≤ op then -1 else if op = 29 ∨ op = 30 then 2
 else if op = 0 ∨ op = 1 ∨ op = 3 ∨ op = 4 ∨ op = 23 ∨ op = 24 ∨ op = 25 ∨ op = 27 ∨ op = 28 then 1 else 0
theorem BO (op : Int) : eN op = -1 ∨ eN op = 0 ∨ eN op = 1 ∨ eN op = 2 := by
 unfold eN
 split
 ·exact .inl rfl
 ·split
  ·exact .inr (.inr (.inr rfl))
  ·split
   ·exact .inr (.inr (.inl rfl))
   ·exact .inr (.inl rfl)
theorem qR {op : Int} (h : 0 ≤ eN op) : 0 ≤ op ∧ op < 42 := by
 unfold eN at h
 split at h <;> omega
theorem qdy_eq (n : Nat) (op : Int) : qdy n op = some (eN op) := by
 by_cases h : 0 ≤ op ∧ op < 42
 ·obtain ⟨k, rfl⟩ : ∃ k : Nat, op = (k : Int) := ⟨op.toNat, by omega⟩
  have A : ∀ k : Nat, k < 42 → qdy 0 (k : Int) = some (eN (k : Int)) := by decide +kernel
  exact A k (by omega)
 ·have H : eN op = -1 := by
   unfold eN
   rw [if_pos (by omega)]
  rw [H]
  unfold qdy
  simp only [yr3, beq_iff_eq, decide_eq_true_eq]
  rw [if_neg (by omega), if_neg (by omega), if_neg (by omega), if_neg (by omega), if_neg (by omega), if_neg (by omega), if_neg (by omega), if_neg (by omega), if_neg (by omega), if_neg (by omega), if_neg (by omega)]
  by_cases z : op < 0
  ·rw [if_pos z]
  ·rw [if_neg z, if_pos (by omega)]
theorem JM (n : Nat) (op : Int) (hn : 10 ≤ n) : qda n op = some (eN op) := by
 by_cases h : 0 ≤ op ∧ op < 42
 ·obtain ⟨k, rfl⟩ : ∃ k : Nat, op = (k : Int) := ⟨op.toNat, by omega⟩
  have K : ∀ k : Nat, k < 42 → qda 10 (k : Int) = some (eN (k : Int)) := by decide +kernel
  have z := K k (by omega)
  unfold qda at z ⊢
  rw [decide_eq_false (by omega), ye, decide_eq_false (by omega), ye] at z ⊢
  cases H : ((k : Int) == 29) with
  | true => rw [H] at z; exact z
  | false =>
   rw [H, ye] at z
   rw [ye]
   cases A : ((k : Int) == 30) with
   | true => rw [A] at z; exact z
   | false =>
    rw [A, ye] at z
    rw [ye]
    obtain ⟨x, hx, N⟩ := yo1.1 z
    rw [show qda_W0 n ((k : Int), [0, 1, 3, 4, 23, 24, 25, 27, 28], 0) = some x from C9 (n := 10) hx n hn]
    exact N
 ·have M : eN op = -1 := by
   unfold eN
   rw [if_pos (by omega)]
  rw [M]
  unfold qda
  simp only [yr3, beq_iff_eq, decide_eq_true_eq]
  by_cases J : op < 0
  ·rw [if_pos J]
  ·rw [if_neg J, if_pos (by omega)]
theorem qep_eq (n : Nat) (v : Int) (b : Bool) : qep n v b = some (decide (0 ≤ v ∧ v ≤ 255 ∧ (b = true ∨ v = 0))) := by
 unfold qep
 simp only [yr3, decide_eq_true_eq]
 by_cases h1 : v ≥ 0
 ·by_cases h2 : v ≤ 255
  ·cases b with
   | true => rw [if_pos h1, if_pos h2, if_pos rfl, decide_eq_true (by simp; omega)]
   | false =>
    rw [if_pos h1, if_pos h2, if_neg (by simp)]
    by_cases h : v = 0
    ·simp [h]
    ·rw [beq_false_of_ne h, decide_eq_false (by simp; omega)]
  ·rw [if_pos h1, if_neg h2, decide_eq_false (by omega)]
 ·rw [if_neg h1, decide_eq_false (by omega)]
def jC (i : Int × Int × Int) : Bool :=
 decide (eN i.1 < 0 ∨ ¬ (0 ≤ i.2.1 ∧ i.2.1 ≤ 255 ∧ (eN i.1 > 0 ∨ i.2.1 = 0)) ∨ ¬ (0 ≤ i.2.2 ∧ i.2.2 ≤ 255 ∧ (eN i.1 > 1 ∨ i.2.2 = 0)))
def kR (i : Int × Int × Int) : List Int :=
 if jC i = true then [] else i.1 :: ((if eN i.1 > 0 then bJ i.2.1.toNat else []) ++ (if eN i.1 > 1 then bJ i.2.2.toNat else []))
theorem qQ (i : Int × Int × Int) : (kR i).length ≤ 23 := by
 unfold kR
 have := aS i.2.1.toNat
 have := aS i.2.2.toNat
 split
 ·simp
 ·rw [ye1, yi]
  split <;> split <;> simp <;> omega
theorem HA (i : Int × Int × Int) : ((kR i).length == 0) = jC i := by
 unfold kR
 cases jC i <;> simp
theorem Ca (n : Nat) (v : Int) (h1 : 0 ≤ v) (h2 : v ≤ 255) (hn : 20 ≤ n) : qeq n (aY .u64 v) = some (bJ v.toNat) ∧ qeh n (aY .u64 v) = some (bJ v.toNat) := by
 have : aY .u64 v = ((v.toNat : Nat) : Int) := by rw [cW h1 (by omega)]; omega
 rw [this]
 exact ⟨qeq_eq n _ (by omega) hn, dS n _ (by omega) hn⟩
theorem qek_eq (n : Nat) (i : Int × Int × Int) (hn : 20 ≤ n) : qek n i.1 i.2.1 i.2.2 = some (kR i) := by
 obtain ⟨op, a, b⟩ := i
 unfold qek kR jC
 rw [qdy_eq, ya]
 simp only []
 by_cases K : eN op < 0
 ·rw [decide_eq_true K, yg, if_pos (by rw [decide_eq_true (.inl K)])]
 rw [decide_eq_false K, ye, qep_eq, ya]
 by_cases h1 : 0 ≤ a ∧ a ≤ 255 ∧ (eN op > 0 ∨ a = 0)
 ·have A : 0 ≤ a ∧ a ≤ 255 ∧ (decide (eN op > 0) = true ∨ a = 0) := by simpa using h1
  rw [decide_eq_true A, yw, ye, qep_eq, ya]
  by_cases h2 : 0 ≤ b ∧ b ≤ 255 ∧ (eN op > 1 ∨ b = 0)
  ·have H : 0 ≤ b ∧ b ≤ 255 ∧ (decide (eN op > 1) = true ∨ b = 0) := by simpa using h2
   have M := qR (op := op) (by omega)
   rw [decide_eq_true H, yw, ye, if_neg (by rw [decide_eq_false]; simp; exact fun h => by rcases h with h | h | h; exact K h; exact h h1; exact h h2), pS M.1 (by omega)]
   have N := (Ca n a h1.1 h1.2.1 hn).1
   have O := (Ca n b h2.1 h2.2.1 hn).1
   have la := aS a.toNat
   have lb := aS b.toNat
   rcases BO op with J | J | J | J
   ·omega
   ·rw [J]
    obtain ⟨m, rfl⟩ : ∃ m, n = m + 1 := ⟨n - 1, by omega⟩
    rw [show (decide ((0 : Int) ≤ 0) && decide ((0 : Int) ≤ 2)) = true from rfl, yg]
    have h : qek_W0 (m + 1) (((0, (Int.toNat 0) - 0), (((((Int.toNat 0) - 0) : Nat) : Int), 0)), ([op], (a, b))) = some ([op], (a, b)) := by
     refine bG ?_
     rfl
    rw [h]
    rfl
   ·rw [J]
    obtain ⟨m, rfl⟩ : ∃ m, n = m + 2 := ⟨n - 2, by omega⟩
    rw [show (decide ((0 : Int) ≤ 1) && decide ((1 : Int) ≤ 2)) = true from rfl, yg]
    have h : qek_W0 (m + 2) (((0, (Int.toNat 1) - 0), (((((Int.toNat 1) - 0) : Nat) : Int), 0)), ([op], (a, b))) = some ([op] ++ bJ a.toNat, (a, b)) := by
     refine (bM (s' := (((0, 1), ((1 : Int), (1 : Int))), ([op] ++ bJ a.toNat, (a, b)))) ?_).trans (bG ?_)
     ·show ((qeq (m + 2) (aY .u64 a)).bind fun z => bif Nat.ble ([op] ++ z).length 4294967296 then some (Sum.inl (((0, 1), ((1 : Int), (aI .i64 0 1))), (([op] ++ z), (a, b)))) else none) = _
      rw [N, ya, aU (by simp; omega)]
      rfl
     ·rfl
    rw [h]
    simp
   ·rw [J]
    obtain ⟨m, rfl⟩ : ∃ m, n = m + 3 := ⟨n - 3, by omega⟩
    rw [show (decide ((0 : Int) ≤ 2) && decide ((2 : Int) ≤ 2)) = true from rfl, yg]
    have h : qek_W0 (m + 3) (((0, (Int.toNat 2) - 0), (((((Int.toNat 2) - 0) : Nat) : Int), 0)), ([op], (a, b))) = some (([op] ++ bJ a.toNat) ++ bJ b.toNat, (a, b)) := by
     refine (bM (s' := (((0, 2), ((2 : Int), (1 : Int))), ([op] ++ bJ a.toNat, (a, b)))) ?_).trans ((bM (s' := (((0, 2), ((2 : Int), (2 : Int))), (([op] ++ bJ a.toNat) ++ bJ b.toNat, (a, b)))) ?_).trans (bG ?_))
     ·show ((qeq (m + 3) (aY .u64 a)).bind fun z => bif Nat.ble ([op] ++ z).length 4294967296 then some (Sum.inl (((0, 2), ((2 : Int), (aI .i64 0 1))), (([op] ++ z), (a, b)))) else none) = _
      rw [N, ya, aU (by simp; omega)]
      rfl
     ·show ((qeq (m + 3) (aY .u64 b)).bind fun z => bif Nat.ble (([op] ++ bJ a.toNat) ++ z).length 4294967296 then some (Sum.inl (((0, 2), ((2 : Int), (aI .i64 1 1))), ((([op] ++ bJ a.toNat) ++ z), (a, b)))) else none) = _
      rw [O, ya, aU (by simp; omega)]
      rfl
     ·rfl
    rw [h]
    simp
  ·have H : ¬ (0 ≤ b ∧ b ≤ 255 ∧ (decide (eN op > 1) = true ∨ b = 0)) := by simpa using h2
   rw [decide_eq_false H, yw2, yg, if_pos (by rw [decide_eq_true (.inr (.inr h2))])]
 ·have A : ¬ (0 ≤ a ∧ a ≤ 255 ∧ (decide (eN op > 0) = true ∨ a = 0)) := by simpa using h1
  rw [decide_eq_false A, yw2, yg, if_pos (by rw [decide_eq_true (.inr (.inl h1))])]
theorem Io (n : Nat) (i : Int × Int × Int) (hn : 20 ≤ n) : qbt n i.1 i.2.1 i.2.2 = some (kR i) := by
 obtain ⟨op, a, b⟩ := i
 unfold qbt kR jC
 rw [JM n _ (by omega), ya]
 simp only [yr3, decide_eq_true_eq, bne_iff_ne]
 by_cases M : eN op < 0
 ·rw [if_pos M, if_pos (.inl M)]
 rw [if_neg M]
 by_cases K : a < 0
 ·rw [if_pos K, if_pos (by omega)]
 rw [if_neg K]
 by_cases H : a > 255
 ·rw [if_pos H, if_pos (by omega)]
 rw [if_neg H]
 by_cases z : b < 0
 ·rw [if_pos z, if_pos (by omega)]
 rw [if_neg z]
 by_cases J : b > 255
 ·rw [if_pos J, if_pos (by omega)]
 rw [if_neg J]
 have O := qR (op := op) (by omega)
 have Z := (Ca n a (by omega) (by omega) hn).2
 have Y := (Ca n b (by omega) (by omega) hn).2
 have la := aS a.toNat
 have lb := aS b.toNat
 rw [pS O.1 (by omega), Z, Y]
 simp only [ya]
 have W : Nat.ble ([op] ++ bJ a.toNat).length 4294967296 = true := aU (by simp; omega)
 have V : Nat.ble ([op] ++ bJ b.toNat).length 4294967296 = true := aU (by simp; omega)
 have U : Nat.ble (([op] ++ bJ a.toNat) ++ bJ b.toNat).length 4294967296 = true := aU (by simp; omega)
 rw [W, V, U]
 rcases BO op with h | h | h | h
 ·omega
 ·rw [h]
  by_cases N : a = 0
  ·by_cases A : b = 0
   ·simp [N, A]
   ·simp [N, A]
  ·simp [N]
 ·rw [h]
  by_cases A : b = 0
  ·simp [A]; omega
  ·simp [A]
 ·rw [h]
  simp; omega
end Sx
end
section
namespace Sx
open Go Go.Ab
abbrev cQ := Int × Int
abbrev B6 := Int × Int × Int
abbrev iT := List cQ × Int × Int × List cQ × List B6
abbrev Mv := List cQ × Int × Int
def bN (recs most : Int) (l : List cQ) : Bool := decide ((l.length : Int) ≤ most) && l.all (fF recs)
theorem Nj (n : Nat) (l : List cQ) (recs : Int) (hl : l.length ≤ 4294967000) (hn : l.length < n) : qr n l recs = some (l.any (fun t => !fF recs t), recs) := by
 unfold qr qao
 have h := bA (B := fun s => qao_B0 n s.1.1 s.1.2.1 s.1.2.2 s.2) (xs := l) (mk := fun i => ((l, (aA l, (i : Int))), recs)) (p := fun t => !fF recs t) (found := fun i x => Sum.inl ((i : Int), recs)) (e := Sum.inr recs)
  (fun i x hx => ?_) ?_ l.length 0 n (by omega) hn
 ·rw [yl1] at h
  rcases h with ⟨h1, k, x, _, _, h2⟩ | ⟨h1, h2⟩
  ·rw [show qao_W0 n ((l, (aA l, 0)), recs) = some (Sum.inl ((k : Int), recs)) from h2, h1]
   show some (decide ((k : Int) ≥ 0), recs) = _
   rw [decide_eq_true (by omega)]
  ·rw [show qao_W0 n ((l, (aA l, 0)), recs) = some (Sum.inr recs) from h2, h1]
   rfl
 ·have hi := aO hx
  show qao_B0 n l (aA l) (i : Int) recs = _
  unfold qao_B0 qbc
  rw [aC, decide_eq_true (by omega), yg, aE, hx, ya, Cd, ya, ya, aH (by omega)]
  cases fF recs x <;> rfl
 ·show qao_B0 n l (aA l) (l.length : Int) recs = _
  unfold qao_B0
  rw [aC, decide_eq_false (by omega), ye]
theorem sY {α : Type} (p : α → Bool) (l : List α) : (!l.any fun t => !p t) = l.all p := by
 induction l with
 | nil => rfl
 | cons x l h => rw [List.any_cons, ye3, ← h]; cases p x <;> simp
theorem Ny (n : Nat) (l : List cQ) (recs h : Int) (hl : l.length ≤ 4294967000) (hn : l.length < n) : qcj n l recs h = some (bN recs h l) := by
 unfold qcj bN
 rw [aC, Nj n l recs hl hn, ya]
 show (bif decide ((l.length : Int) ≤ h) then some (!l.any fun t => !fF recs t) else some false) = _
 rw [sY]
 cases decide ((l.length : Int) ≤ h) <;> rfl
theorem sK (n : Nat) (l : List cQ) (recs z : Int) (hm : z ≤ 64) (hn : 100 ≤ n) : qcj n l recs z = some (bN recs z l) := by
 by_cases h : (l.length : Int) ≤ z
 ·exact Ny n l recs z (by omega) (by omega)
 ·unfold qcj bN
  rw [aC, decide_eq_false h, ye]
  rfl
theorem LA (n : Nat) (l : List (List cQ)) (recs : Int) (hl : l.length ≤ 64) (hn : 100 ≤ n) : qd n l recs = some (l.any (fun t => !bN recs 6 t), recs) := by
 unfold qd qae
 have h := bA (B := fun s => qae_B0 n s.1.1 s.1.2.1 s.1.2.2 s.2) (xs := l) (mk := fun i => ((l, (aA l, (i : Int))), recs)) (p := fun t => !bN recs 6 t) (found := fun i x => Sum.inl ((i : Int), recs)) (e := Sum.inr recs)
  (fun i x hx => ?_) ?_ l.length 0 n (by omega) (by omega)
 ·rw [yl1] at h
  rcases h with ⟨h1, k, x, _, _, h2⟩ | ⟨h1, h2⟩
  ·rw [show qae_W0 n ((l, (aA l, 0)), recs) = some (Sum.inl ((k : Int), recs)) from h2, h1]
   show some (decide ((k : Int) ≥ 0), recs) = _
   rw [decide_eq_true (by omega)]
  ·rw [show qae_W0 n ((l, (aA l, 0)), recs) = some (Sum.inr recs) from h2, h1]
   rfl
 ·have hi := aO hx
  show qae_B0 n l (aA l) (i : Int) recs = _
  unfold qae_B0 qbo
  rw [aC, decide_eq_true (by omega), yg, aE, hx, ya, sK n x recs 6 (by omega) hn, ya, ya, aH (by omega)]
  cases bN recs 6 x <;> rfl
 ·show qae_B0 n l (aA l) (l.length : Int) recs = _
  unfold qae_B0
  rw [aC, decide_eq_false (by omega), ye]
theorem Lr (n : Nat) (l : List B6) (hl : l.length ≤ 64) (hn : 100 ≤ n) : qk n l = some (l.any jC) := by
 unfold qk qal
 have h := bA (B := fun s => qal_B0 n s.1 s.2.1 s.2.2) (xs := l) (mk := fun i => (l, (aA l, (i : Int)))) (p := jC) (found := fun i x => Sum.inl (i : Int)) (e := Sum.inr ())
  (fun i x hx => ?_) ?_ l.length 0 n (by omega) (by omega)
 ·rw [yl1] at h
  rcases h with ⟨h1, k, x, _, _, h2⟩ | ⟨h1, h2⟩
  ·rw [show qal_W0 n (l, (aA l, 0)) = some (Sum.inl (k : Int)) from h2, h1]
   show some (decide ((k : Int) ≥ 0)) = _
   rw [decide_eq_true (by omega)]
  ·rw [show qal_W0 n (l, (aA l, 0)) = some (Sum.inr ()) from h2, h1]
   rfl
 ·have hi := aO hx
  show qal_B0 n l (aA l) (i : Int) = _
  unfold qal_B0 qaj
  rw [aC, decide_eq_true (by omega), yg, aE, hx, ya, qek_eq n x (by omega), ya, ya, aH (by omega), aC]
  have : (((kR x).length : Int) == 0) = jC x := by
   rw [← HA]
   cases (kR x).length <;> rfl
  rw [this]
  cases jC x <;> rfl
 ·show qal_B0 n l (aA l) (l.length : Int) = _
  unfold qal_B0
  rw [aC, decide_eq_false (by omega), ye]
def oQ (recs : Int) (f : iT) : Bool :=
 bN recs 4 f.1 && (fF recs (f.2.1, f.2.2.1) && (bN recs (8 - (f.1.length : Int)) f.2.2.2.1 && (decide (1 ≤ f.2.2.2.2.length) && (decide (f.2.2.2.2.length ≤ 64) && !f.2.2.2.2.any jC))))
theorem OX (n : Nat) (f : iT) (recs : Int) (hn : 100 ≤ n) : qat n f.1 f.2.1 f.2.2.1 f.2.2.2.1 f.2.2.2.2 recs = some (oQ recs f) := by
 obtain ⟨a, k, m, l, c⟩ := f
 unfold qat oQ
 rw [sK n a recs 4 (by omega) hn, ya]
 simp only []
 cases h : bN recs 4 a with
 | false => rfl
 | true =>
  have ha : (a.length : Int) ≤ 4 := by
   simp only [bN, yc, decide_eq_true_eq] at h
   exact h.1
  rw [yg, Cd n (k, m) recs, ya]
  cases fF recs (k, m) with
  | false => rfl
  | true =>
   rw [yg, aC, bW (by omega) (by omega), sK n l recs _ (by omega) hn, ya]
   cases bN recs (8 - (a.length : Int)) l with
   | false => rfl
   | true =>
    rw [yg, aC]
    by_cases h1 : 1 ≤ c.length
    ·rw [decide_eq_true (by omega), yg, decide_eq_true h1]
     by_cases h2 : c.length ≤ 64
     ·rw [decide_eq_true (by omega), yg, decide_eq_true h2, Lr n c h2 hn, ya]
      simp
     ·rw [decide_eq_false (by omega), ye, decide_eq_false h2]
      rfl
    ·rw [decide_eq_false (by omega), ye, decide_eq_false h1]
     rfl
theorem M1 (n : Nat) (l : List iT) (recs : Int) (hl : l.length ≤ 64) (hn : 100 ≤ n) : qs n l recs = some (l.any (fun t => !oQ recs t), recs) := by
 unfold qs qaq
 have h := bA (B := fun s => qaq_B0 n s.1.1 s.1.2.1 s.1.2.2 s.2) (xs := l) (mk := fun i => ((l, (aA l, (i : Int))), recs)) (p := fun t => !oQ recs t) (found := fun i x => Sum.inl ((i : Int), recs)) (e := Sum.inr recs)
  (fun i x hx => ?_) ?_ l.length 0 n (by omega) (by omega)
 ·rw [yl1] at h
  rcases h with ⟨h1, k, x, _, _, h2⟩ | ⟨h1, h2⟩
  ·rw [show qaq_W0 n ((l, (aA l, 0)), recs) = some (Sum.inl ((k : Int), recs)) from h2, h1]
   show some (decide ((k : Int) ≥ 0), recs) = _
   rw [decide_eq_true (by omega)]
  ·rw [show qaq_W0 n ((l, (aA l, 0)), recs) = some (Sum.inr recs) from h2, h1]
   rfl
 ·have hi := aO hx
  show qaq_B0 n l (aA l) (i : Int) recs = _
  unfold qaq_B0 qbd
  rw [aC, decide_eq_true (by omega), yg, aE, hx, ya, OX n x recs hn, ya, ya, aH (by omega)]
  cases oQ recs x <;> rfl
 ·show qaq_B0 n l (aA l) (l.length : Int) recs = _
  unfold qaq_B0
  rw [aC, decide_eq_false (by omega), ye]
def qI (recs : Int) (i : Mv) : Bool := bN recs 4 i.1 && fF recs (i.2.1, i.2.2)
theorem JO (n : Nat) (l : List Mv) (recs : Int) (hl : l.length ≤ 64) (hn : 100 ≤ n) : qf n l recs = some (l.any (fun t => !qI recs t), recs) := by
 unfold qf qad
 have h := bA (B := fun s => qad_B0 n s.1.1 s.1.2.1 s.1.2.2 s.2) (xs := l) (mk := fun i => ((l, (aA l, (i : Int))), recs)) (p := fun t => !qI recs t) (found := fun i x => Sum.inl ((i : Int), recs)) (e := Sum.inr recs)
  (fun i x hx => ?_) ?_ l.length 0 n (by omega) (by omega)
 ·rw [yl1] at h
  rcases h with ⟨h1, k, x, _, _, h2⟩ | ⟨h1, h2⟩
  ·rw [show qad_W0 n ((l, (aA l, 0)), recs) = some (Sum.inl ((k : Int), recs)) from h2, h1]
   show some (decide ((k : Int) ≥ 0), recs) = _
   rw [decide_eq_true (by omega)]
  ·rw [show qad_W0 n ((l, (aA l, 0)), recs) = some (Sum.inr recs) from h2, h1]
   rfl
 ·have hi := aO hx
  show qad_B0 n l (aA l) (i : Int) recs = _
  unfold qad_B0 qbm
  rw [aC, decide_eq_true (by omega), yg, aE, hx, ya, sK n x.1 recs 4 (by omega) hn, ya, aH (by omega)]
  unfold qI
  cases bN recs 4 x.1 with
  | false => rfl
  | true =>
   rw [yw, ye, Cd n (x.2.1, x.2.2) recs, ya, ya]
   cases fF recs (x.2.1, x.2.2) <;> rfl
 ·show qad_B0 n l (aA l) (l.length : Int) recs = _
  unfold qad_B0
  rw [aC, decide_eq_false (by omega), ye]
theorem Kh (n : Nat) (l : List ByteArray) (hl : l.length ≤ 64) (hn : 100 ≤ n) : qi n l = some (l.any (fun s => decide (s.size > 32))) := by
 unfold qi qac
 have h := bA (B := fun s => qac_B0 n s.1 s.2.1 s.2.2) (xs := l) (mk := fun i => (l, (aA l, (i : Int)))) (p := fun s => decide (s.size > 32)) (found := fun i x => Sum.inl (i : Int)) (e := Sum.inr ())
  (fun i x hx => ?_) ?_ l.length 0 n (by omega) (by omega)
 ·rw [yl1] at h
  rcases h with ⟨h1, k, x, _, _, h2⟩ | ⟨h1, h2⟩
  ·rw [show qac_W0 n (l, (aA l, 0)) = some (Sum.inl (k : Int)) from h2, h1]
   show some (decide ((k : Int) ≥ 0)) = _
   rw [decide_eq_true (by omega)]
  ·rw [show qac_W0 n (l, (aA l, 0)) = some (Sum.inr ()) from h2, h1]
   rfl
 ·have hi := aO hx
  show qac_B0 n l (aA l) (i : Int) = _
  unfold qac_B0 qbf
  rw [aC, decide_eq_true (by omega), yg, aE, hx, ya, ya, aH (by omega)]
  have : decide (w6 x > 32) = decide (x.size > 32) := by
   unfold w6
   by_cases h : x.size > 32
   ·rw [decide_eq_true h, decide_eq_true (by omega)]
   ·rw [decide_eq_false h, decide_eq_false (by omega)]
  rw [this]
  cases decide (x.size > 32) <;> rfl
 ·show qac_B0 n l (aA l) (l.length : Int) = _
  unfold qac_B0
  rw [aC, decide_eq_false (by omega), ye]
structure aW where
 recs : List (List cQ)
 funcs : List iT
 imps : List Mv
 ints : List Int
 texts : List ByteArray
def cM (m : aW) : Bool :=
 decide (m.recs.length ≤ 8) && (m.recs.all (bN m.recs.length 6) && (decide (1 ≤ m.funcs.length) && (decide (m.funcs.length ≤ 8) && (m.funcs.all (oQ m.recs.length) &&
  (decide (m.imps.length ≤ 8) && (m.imps.all (qI m.recs.length) && (decide (m.ints.length ≤ 16) && (decide (m.texts.length ≤ 16) && m.texts.all fun s => decide (s.size ≤ 32)))))))))
theorem PB (l : List ByteArray) : (!l.any fun s => decide (s.size > 32)) = l.all fun s => decide (s.size ≤ 32) := by
 rw [← sY]
 congr 2
 funext s
 by_cases h : s.size > 32
 ·rw [decide_eq_true h, decide_eq_false (by omega)]; rfl
 ·rw [decide_eq_false h, decide_eq_true (by omega)]; rfl
theorem Oi (n : Nat) (m : aW) (hn : 100 ≤ n) : qcn n m.recs m.funcs m.imps m.ints m.texts = some (cM m) := by
 unfold qcn cM
 rw [aC m.recs, aC m.funcs, aC m.imps, aC m.ints, aC m.texts]
 by_cases h1 : m.recs.length ≤ 8
 ·rw [decide_eq_true (by omega : (m.recs.length : Int) ≤ 8), yg, decide_eq_true h1, LA n m.recs _ (by omega) hn, ya, sY, yu]
  cases m.recs.all (bN m.recs.length 6) with
  | false => rfl
  | true =>
   rw [yg, yu]
   by_cases h2 : 1 ≤ m.funcs.length
   ·rw [decide_eq_true (by omega : (m.funcs.length : Int) ≥ 1), yg, decide_eq_true h2, yu]
    by_cases h : m.funcs.length ≤ 8
    ·rw [decide_eq_true (by omega : (m.funcs.length : Int) ≤ 8), yg, decide_eq_true h, M1 n m.funcs _ (by omega) hn, ya, sY, yu]
     cases m.funcs.all (oQ m.recs.length) with
     | false => rfl
     | true =>
      rw [yg, yu]
      by_cases H : m.imps.length ≤ 8
      ·rw [decide_eq_true (by omega : (m.imps.length : Int) ≤ 8), yg, decide_eq_true H, JO n m.imps _ (by omega) hn, ya, sY, yu]
       cases m.imps.all (qI m.recs.length) with
       | false => rfl
       | true =>
        rw [yg, yu]
        by_cases A : m.ints.length ≤ 16
        ·rw [decide_eq_true (by omega : (m.ints.length : Int) ≤ 16), yg, decide_eq_true A, yu]
         by_cases z : m.texts.length ≤ 16
         ·rw [decide_eq_true (by omega : (m.texts.length : Int) ≤ 16), yg, decide_eq_true z, yu, Kh n m.texts (by omega) hn, ya, PB]
         ·rw [decide_eq_false (by omega : ¬ (m.texts.length : Int) ≤ 16), ye, decide_eq_false z]; rfl
        ·rw [decide_eq_false (by omega : ¬ (m.ints.length : Int) ≤ 16), ye, decide_eq_false A]; rfl
      ·rw [decide_eq_false (by omega : ¬ (m.imps.length : Int) ≤ 8), ye, decide_eq_false H]; rfl
    ·rw [decide_eq_false (by omega : ¬ (m.funcs.length : Int) ≤ 8), ye, decide_eq_false h]; rfl
   ·rw [decide_eq_false (by omega : ¬ (m.funcs.length : Int) ≥ 1), ye, decide_eq_false h2]; rfl
 ·rw [decide_eq_false (by omega : ¬ (m.recs.length : Int) ≤ 8), ye, decide_eq_false h1]; rfl
end Sx
end
section
namespace Sx
open Go Go.Ab
def Jy (l : List cQ) : Prop := ∀ t ∈ l, PL t
structure Fe (m : aW) : Prop where
 recs : ∀ l ∈ m.recs, Jy l
 funcs : ∀ f ∈ m.funcs, Jy f.1 ∧ PL (f.2.1, f.2.2.1) ∧ Jy f.2.2.2.1
 imps : ∀ i ∈ m.imps, Jy i.1 ∧ PL (i.2.1, i.2.2)
 ints : ∀ v ∈ m.ints, 0 ≤ v ∧ v ≤ 18446744073709551615
def cL (l : List cQ) : List Int := bJ l.length ++ l.flatMap kH
theorem fB (l : List cQ) : (cL l).length ≤ 11 + 22 * l.length := by
 have := aS l.length
 have := b9 kH 22 l fun t _ => fH t
 rw [cL, yi]; omega
def o6 (f : iT) : List Int := cL f.1 ++ kH (f.2.1, f.2.2.1) ++ cL f.2.2.2.1 ++ bJ f.2.2.2.2.length ++ f.2.2.2.2.flatMap kR
def A3 (i : Mv) : List Int := cL i.1 ++ kH (i.2.1, i.2.2)
def s8 (s : ByteArray) : List Int := bJ s.size ++ cE s
def cK {α : Type} (f : α → List Int) (l : List α) : List Int := bJ l.length ++ l.flatMap f
def MP (l : List (List Int)) : List Int := cK (fun p => bJ p.length ++ p) l
def BX (m : aW) : List Int := MP [cK cL m.recs, cK o6 m.funcs, cK A3 m.imps, cK (fun v => s5 8 v.toNat) m.ints, cK s8 m.texts]
theorem qZ (n k : Nat) (hk : k ≤ 4294967000) (hn : 20 ≤ n) : ql n (k : Int) = some (bJ k) := by
 unfold ql
 have := aS k
 rw [cW (by omega) (by omega), qeq_eq n k (by omega) hn, ya, aU (by omega), yg]
theorem Am (n k : Nat) (h : List Int) (hk : k ≤ 4294967000) (hm : h.length ≤ 4294900000) (hn : 20 ≤ n) : qc n (k : Int) h = some (h ++ bJ k) := by
 unfold qc
 have := aS k
 rw [cW (by omega) (by omega), qeq_eq n k (by omega) hn, ya, aU (by rw [yi]; omega), yg]
theorem sL (n : Nat) (l : List cQ) (z : List Int) (H : Jy l) (hl : l.length ≤ 100) (hm : z.length ≤ 4294000000) (hn : 200 ≤ n) : qm n l z = some (z ++ cL l) := by
 unfold qm
 have hv := aS l.length
 rw [aC, Am n _ z (by omega) (by omega) (by omega), ya]
 have h := dY (B := fun s => qm_B0 n s.1.1 s.1.2.1 s.1.2.2 s.2) (xs := l) (mk := fun i a => ((l, ((l.length : Int), (i : Int))), a)) (f := kH) (e := id) (c := 22) (m0 := z ++ bJ l.length) (cap := 4294967296)
  (fun x _ => fH x) (by rw [yi]; omega) (fun i a x hx A ha => ?_) (fun a => ?_) (n := n) (by omega)
 ·rw [show qm_W0 n ((l, ((l.length : Int), 0)), z ++ bJ l.length) = _ from h, ya, id, yw1]
  rfl
 ·have hi := aO hx
  show qm_B0 n l (l.length : Int) (i : Int) a = _
  unfold qm_B0
  rw [decide_eq_true (by omega), yg, aE, hx, ya, qen_eq n x (H x A) (by omega), ya, aU (by rw [yi]; omega), yg, aH (by omega)]
 ·show qm_B0 n l (l.length : Int) (l.length : Int) a = _
  unfold qm_B0
  rw [decide_eq_false (by omega), ye]; rfl
theorem iH {recs z : Int} {l : List cQ} (h : bN recs z l = true) : (l.length : Int) ≤ z := by
 simp only [bN, yc, decide_eq_true_eq] at h
 exact h.1
theorem Jq (n : Nat) (m : aW) (H : Fe m) (hf : cM m = true) (hn : 200 ≤ n) : qan n m.recs m.funcs m.imps m.ints m.texts = some (cK cL m.recs) ∧ (cK cL m.recs).length ≤ 2000 := by
 simp only [cM, yc, decide_eq_true_eq, yx] at hf
 obtain ⟨h1, h2, _⟩ := hf
 have A : ∀ x ∈ m.recs, (cL x).length ≤ 143 := fun x hx => by
  have := fB x
  have := iH (h2 x hx)
  omega
 have hv := aS m.recs.length
 refine ⟨?_, by have := b9 cL 143 m.recs A; rw [cK, yi]; omega⟩
 unfold qan
 rw [aC, qZ n _ (by omega) (by omega), ya]
 have h := dY (B := fun s => qan_B0 n s.1.1 s.1.2.1 s.1.2.2 s.2) (xs := m.recs) (mk := fun i a => ((m.recs, ((m.recs.length : Int), (i : Int))), a)) (f := cL) (e := id) (c := 143) (m0 := bJ m.recs.length) (cap := 4000)
  A (by omega) (fun i a x hx z ha => ?_) (fun a => ?_) (n := n) (by omega)
 ·rw [show qan_W0 n ((m.recs, ((m.recs.length : Int), 0)), bJ m.recs.length) = _ from h, ya]
  rfl
 ·have hi := aO hx
  show qan_B0 n m.recs (m.recs.length : Int) (i : Int) a = _
  unfold qan_B0
  have := iH (h2 x z)
  rw [decide_eq_true (by omega), yg, aE, hx, ya, sL n x a (H.recs x z) (by omega) (by omega) hn, ya, aH (by omega)]
 ·show qan_B0 n m.recs (m.recs.length : Int) (m.recs.length : Int) a = _
  unfold qan_B0
  rw [decide_eq_false (by omega), ye]; rfl
theorem qO {recs : Int} {f : iT} (h : oQ recs f = true) : f.1.length ≤ 4 ∧ f.2.2.2.1.length ≤ 8 ∧ 1 ≤ f.2.2.2.2.length ∧ f.2.2.2.2.length ≤ 64 ∧ (o6 f).length ≤ 1900 := by
 simp only [oQ, yc, decide_eq_true_eq] at h
 obtain ⟨h1, _, z, H, A, _⟩ := h
 have h1 := iH h1
 have z := iH z
 have := fB f.1
 have := fB f.2.2.2.1
 have := fH (f.2.1, f.2.2.1)
 have := aS f.2.2.2.2.length
 have := b9 kR 23 f.2.2.2.2 fun i _ => qQ i
 refine ⟨by omega, by omega, H, A, ?_⟩
 simp only [o6, yi]
 omega
theorem Gy (n : Nat) (m : aW) (ho : Fe m) (hf : cM m = true) (hn : 200 ≤ n) : qx n m.recs m.funcs m.imps m.ints m.texts = some (cK o6 m.funcs) ∧ (cK o6 m.funcs).length ≤ 20000 := by
 simp only [cM, yc, decide_eq_true_eq, yx] at hf
 obtain ⟨_, _, h0, h1, h2, _⟩ := hf
 have W : ∀ x ∈ m.funcs, (o6 x).length ≤ 1900 := fun x hx => (qO (h2 x hx)).2.2.2.2
 have hv := aS m.funcs.length
 refine ⟨?_, by have := b9 o6 1900 m.funcs W; rw [cK, yi]; omega⟩
 unfold qx
 rw [aC, qZ n _ (by omega) (by omega), ya]
 have h := dY (B := fun s => qx_B0 n s.1.1 s.1.2.1 s.1.2.2 s.2) (xs := m.funcs) (mk := fun i a => ((m.funcs, ((m.funcs.length : Int), (i : Int))), a)) (f := o6) (e := id) (c := 1900) (m0 := bJ m.funcs.length) (cap := 40000)
  W (by omega) (fun i a x hx A ha => ?_) (fun a => ?_) (n := n) (by omega)
 ·rw [show qx_W0 n ((m.funcs, ((m.funcs.length : Int), 0)), bJ m.funcs.length) = _ from h, ya]
  rfl
 ·have hi := aO hx
  obtain ⟨Z, Y, l3, l4, _⟩ := qO (h2 x A)
  obtain ⟨V, N, U⟩ := ho.funcs x A
  obtain ⟨J, k, H, K, z⟩ := x
  have t1 := fB J
  have t2 := fB K
  have t3 := fH (k, H)
  have t4 := aS z.length
  have t5 := b9 kR 23 z fun i _ => qQ i
  simp only at Z Y l3 l4 V N U
  show qx_B0 n m.funcs (m.funcs.length : Int) (i : Int) a = _
  unfold qx_B0
  rw [decide_eq_true (by omega), yg, aE, hx, ya]
  simp only []
  rw [sL n J a V (by omega) (by omega) hn, ya, qen_eq n (k, H) N (by omega), ya, aU (by simp only [yi]; omega), yg, sL n K _ U (by omega) (by simp only [yi]; omega) hn, ya,
   aC, Am n _ _ (by omega) (by simp only [yi]; omega) (by omega), ya]
  have M := dY (B := fun s => qx_B2 n s.1.1 s.1.2.1 s.1.2.2.1 s.1.2.2.2.1 s.1.2.2.2.2.1 s.1.2.2.2.2.2 s.2) (xs := z) (mk := fun j b => ((m.funcs, ((m.funcs.length : Int), ((i : Int), (z, ((z.length : Int), (j : Int)))))), b)) (f := kR)
   (e := fun b => ((m.funcs, ((m.funcs.length : Int), (i : Int))), b)) (c := 23) (m0 := a ++ cL J ++ kH (k, H) ++ cL K ++ bJ z.length) (cap := 4294967296) (fun y _ => qQ y) (by simp only [yi]; omega) (fun j b y O hmy hb => ?_) (fun b => ?_) (n := n) (by omega)
  ·rw [show qx_W2 n ((m.funcs, ((m.funcs.length : Int), ((i : Int), (z, ((z.length : Int), 0))))), a ++ cL J ++ kH (k, H) ++ cL K ++ bJ z.length) = _ from M, ya]
   simp only []
   rw [aH (by omega)]
   simp only [o6, yw1]
  ·have hj := aO O
   show qx_B2 n m.funcs (m.funcs.length : Int) (i : Int) z (z.length : Int) (j : Int) b = _
   unfold qx_B2
   rw [decide_eq_true (by omega), yg, aE, O, ya, qek_eq n y (by omega), ya, aU (by rw [yi]; omega), yg, aH (by omega)]
  ·show qx_B2 n m.funcs (m.funcs.length : Int) (i : Int) z (z.length : Int) (z.length : Int) b = _
   unfold qx_B2
   rw [decide_eq_false (by omega), ye]
 ·show qx_B0 n m.funcs (m.funcs.length : Int) (m.funcs.length : Int) a = _
  unfold qx_B0
  rw [decide_eq_false (by omega), ye]; rfl
theorem C7 {recs : Int} {f : Mv} (h : qI recs f = true) : f.1.length ≤ 4 ∧ (A3 f).length ≤ 130 := by
 simp only [qI, yc] at h
 have h1 := iH h.1
 have := fB f.1
 have := fH (f.2.1, f.2.2)
 refine ⟨by omega, ?_⟩
 rw [A3, yi]; omega
theorem Kd (n : Nat) (m : aW) (O : Fe m) (hf : cM m = true) (hn : 200 ≤ n) : qar n m.recs m.funcs m.imps m.ints m.texts = some (cK A3 m.imps) ∧ (cK A3 m.imps).length ≤ 2000 := by
 simp only [cM, yc, decide_eq_true_eq, yx] at hf
 obtain ⟨_, _, _, _, _, h1, h2, _⟩ := hf
 have M : ∀ x ∈ m.imps, (A3 x).length ≤ 130 := fun x hx => (C7 (h2 x hx)).2
 have hv := aS m.imps.length
 refine ⟨?_, by have := b9 A3 130 m.imps M; rw [cK, yi]; omega⟩
 unfold qar
 rw [aC, qZ n _ (by omega) (by omega), ya]
 have h := dY (B := fun s => qar_B0 n s.1.1 s.1.2.1 s.1.2.2 s.2) (xs := m.imps) (mk := fun i a => ((m.imps, ((m.imps.length : Int), (i : Int))), a)) (f := A3) (e := id) (c := 130) (m0 := bJ m.imps.length) (cap := 40000)
  M (by omega) (fun i a x hx z ha => ?_) (fun a => ?_) (n := n) (by omega)
 ·rw [show qar_W0 n ((m.imps, ((m.imps.length : Int), 0)), bJ m.imps.length) = _ from h, ya]
  rfl
 ·have hi := aO hx
  obtain ⟨N, _⟩ := C7 (h2 x z)
  obtain ⟨K, A⟩ := O.imps x z
  obtain ⟨J, k, H⟩ := x
  have t1 := fB J
  have t3 := fH (k, H)
  simp only at N K A
  show qar_B0 n m.imps (m.imps.length : Int) (i : Int) a = _
  unfold qar_B0
  rw [decide_eq_true (by omega), yg, aE, hx, ya]
  simp only []
  rw [sL n J a K (by omega) (by omega) hn, ya, qen_eq n (k, H) A (by omega), ya, aU (by simp only [yi]; omega), yg, aH (by omega)]
  simp only [A3, yw1]
 ·show qar_B0 n m.imps (m.imps.length : Int) (m.imps.length : Int) a = _
  unfold qar_B0
  rw [decide_eq_false (by omega), ye]; rfl
theorem OG (n : Nat) (v : Nat) (hv : v < 18446744073709551616) (hn : 20 ≤ n) : qdx n (v : Int) 8 = some (s5 8 v) := by
 have h := dY (B := fun s => qdx_B0 n s.1.1 s.1.2.1 s.1.2.2 s.2) (xs := List.range 8) (mk := fun i a => (((v : Int), ((8 : Int), (i : Int))), a)) (f := fun j => [((v / 256 ^ j % 256 : Nat) : Int)]) (e := id) (c := 1) (m0 := []) (cap := 100)
  (fun x _ => by simp) (by simp) (fun i a x hx z H => ?_) (fun a => ?_) (n := n) (by simp; omega)
 ·unfold qdx
  rw [show qdx_W0 n (((v : Int), ((Ol (Iz 8 0) 8), 0)), []) = _ from h, ya]
  have e : ∀ l : List Nat, l.flatMap (fun j => [((v / 256 ^ j % 256 : Nat) : Int)]) = l.map fun j => ((v / 256 ^ j % 256 : Nat) : Int) := by
   intro l
   induction l with
   | nil => rfl
   | cons x l K => rw [List.flatMap_cons, K]; rfl
  rw [e]; rfl
 ·have A := aO hx
  rw [yj2] at A
  rw [List.getElem?_range A] at hx
  obtain rfl := yb hx
  show qdx_B0 n (v : Int) 8 (i : Int) a = _
  unfold qdx_B0
  have J : aY .u8 (Mj .u64 (v : Int) (Mk .i64 8 (i : Int))) = ((v / 256 ^ i % 256 : Nat) : Int) := by
   rw [Ip (by omega) (by omega), BJ]
   show ((v : Int).fdiv (2 ^ (min (8 * (i : Int)).toNat 64))) % 256 = _
   rw [show min (8 * (i : Int)).toNat 64 = 8 * i by omega, show ((2 : Int) ^ (8 * i)) = ((256 ^ i : Nat) : Int) by rw [show (256 : Nat) = 2 ^ 8 from rfl, ← Nat.pow_mul]; simp,
    Int.fdiv_eq_ediv_of_nonneg _ (Int.natCast_nonneg _), ← Int.natCast_ediv]
   omega
  rw [decide_eq_true (by omega), yg, J, Ip (by omega) (by omega), decide_eq_true (by omega), yg, aU (by simp at H ⊢; omega), yg, aH (by omega)]
 ·show qdx_B0 n (v : Int) 8 8 a = _
  rfl
theorem Kc (n : Nat) (m : aW) (J : Fe m) (hf : cM m = true) (hn : 200 ≤ n) : qau n m.recs m.funcs m.imps m.ints m.texts = some (cK (fun v => s5 8 v.toNat) m.ints) ∧ (cK (fun v : Int => s5 8 v.toNat) m.ints).length ≤ 2000 := by
 simp only [cM, yc, decide_eq_true_eq, yx] at hf
 obtain ⟨_, _, _, _, _, _, _, h1, _⟩ := hf
 have A : ∀ x ∈ m.ints, (s5 8 x.toNat).length ≤ 8 := fun x hx => by rw [l6]; omega
 have hv := aS m.ints.length
 refine ⟨?_, by have := b9 (fun v : Int => s5 8 v.toNat) 8 m.ints A; rw [cK, yi]; omega⟩
 unfold qau
 rw [aC, qZ n _ (by omega) (by omega), ya]
 have h := dY (B := fun s => qau_B0 n s.1.1 s.1.2.1 s.1.2.2 s.2) (xs := m.ints) (mk := fun i a => ((m.ints, ((m.ints.length : Int), (i : Int))), a)) (f := fun v => s5 8 v.toNat) (e := id) (c := 8) (m0 := bJ m.ints.length) (cap := 40000)
  A (by omega) (fun i a x hx z H => ?_) (fun a => ?_) (n := n) (by omega)
 ·rw [show qau_W0 n ((m.ints, ((m.ints.length : Int), 0)), bJ m.ints.length) = _ from h, ya]
  rfl
 ·have hi := aO hx
  have K := J.ints x z
  obtain ⟨u, rfl⟩ : ∃ u : Nat, x = (u : Int) := ⟨x.toNat, by omega⟩
  show qau_B0 n m.ints (m.ints.length : Int) (i : Int) a = _
  unfold qau_B0
  rw [l6] at H
  rw [decide_eq_true (by omega), yg, aE, hx, ya, OG n u (by omega) (by omega), ya, aU (by rw [yi, l6]; omega), yg, aH (by omega), yb1]
 ·show qau_B0 n m.ints (m.ints.length : Int) (m.ints.length : Int) a = _
  unfold qau_B0
  rw [decide_eq_false (by omega), ye]; rfl
theorem jV (s : ByteArray) : (cE s).length = s.size := by
 unfold cE
 rw [ye2, yv1]; rfl
theorem MM (n : Nat) (m : aW) (hf : cM m = true) (hn : 200 ≤ n) : qbh n m.recs m.funcs m.imps m.ints m.texts = some (cK s8 m.texts) ∧ (cK s8 m.texts).length ≤ 2000 := by
 simp only [cM, yc, decide_eq_true_eq, yx] at hf
 obtain ⟨_, _, _, _, _, _, _, _, h1, h2⟩ := hf
 have A : ∀ x ∈ m.texts, (s8 x).length ≤ 43 := fun x hx => by
  have := aS x.size
  have := h2 x hx
  rw [s8, yi, jV]; omega
 have hv := aS m.texts.length
 refine ⟨?_, by have := b9 s8 43 m.texts A; rw [cK, yi]; omega⟩
 unfold qbh
 rw [aC, qZ n _ (by omega) (by omega), ya]
 have h := dY (B := fun s => qbh_B0 n s.1.1 s.1.2.1 s.1.2.2 s.2) (xs := m.texts) (mk := fun i a => ((m.texts, ((m.texts.length : Int), (i : Int))), a)) (f := s8) (e := id) (c := 43) (m0 := bJ m.texts.length) (cap := 40000)
  A (by omega) (fun i a x hx z ha => ?_) (fun a => ?_) (n := n) (by omega)
 ·rw [show qbh_W0 n ((m.texts, ((m.texts.length : Int), 0)), bJ m.texts.length) = _ from h, ya]
  rfl
 ·have hi := aO hx
  have hs := h2 x z
  have H := aS x.size
  show qbh_B0 n m.texts (m.texts.length : Int) (i : Int) a = _
  unfold qbh_B0
  rw [decide_eq_true (by omega), yg, aE, hx, ya, show w6 x = ((x.size : Nat) : Int) from rfl, Am n _ a (by omega) (by omega) (by omega), ya, aU (by simp only [yi, jV]; omega), yg, aH (by omega), yw1]
  rfl
 ·show qbh_B0 n m.texts (m.texts.length : Int) (m.texts.length : Int) a = _
  unfold qbh_B0
  rw [decide_eq_false (by omega), ye]; rfl
theorem Ot (n : Nat) (l : List (List Int)) (hl : l.length ≤ 100) (H : ∀ x ∈ l, x.length ≤ 1000000) (hn : 200 ≤ n) : qdv n l = some (MP l) := by
 have hv := aS l.length
 have A : ∀ x ∈ l, (bJ x.length ++ x).length ≤ 1000011 := fun x hx => by
  have := aS x.length
  have := H x hx
  rw [yi]; omega
 unfold qdv
 rw [aC, cW (by omega) (by omega), qeq_eq n l.length (by omega) (by omega), ya]
 have h := dY (B := fun s => qdv_B0 n s.1.1 s.1.2.1 s.1.2.2 s.2) (xs := l) (mk := fun i a => ((l, ((l.length : Int), (i : Int))), a)) (f := fun p => bJ p.length ++ p) (e := id) (c := 1000011) (m0 := bJ l.length) (cap := 200000000)
  A (by omega) (fun i a x hx z J => ?_) (fun a => ?_) (n := n) (by omega)
 ·rw [show qdv_W0 n ((l, ((l.length : Int), 0)), bJ l.length) = _ from h, ya]
  rfl
 ·have hi := aO hx
  have K := aS x.length
  have M := H x z
  rw [yi] at J
  show qdv_B0 n l (l.length : Int) (i : Int) a = _
  unfold qdv_B0
  rw [decide_eq_true (by omega), yg, aE, hx, ya, aC, cW (by omega) (by omega), qeq_eq n x.length (by omega) (by omega), ya, aU (by rw [yi]; omega), yg, aU (by simp only [yi]; omega), yg, aH (by omega), yw1]
 ·show qdv_B0 n l (l.length : Int) (l.length : Int) a = _
  unfold qdv_B0
  rw [decide_eq_false (by omega), ye]; rfl
theorem Lq (n : Nat) (m : aW) (h : Fe m) (hn : 200 ≤ n) : qax n m.recs m.funcs m.imps m.ints m.texts = some (if cM m = true then (BX m, 0) else ([], 2)) := by
 unfold qax
 rw [Oi n m (by omega), ya]
 cases hf : cM m with
 | false => rfl
 | true =>
  obtain ⟨z, l1⟩ := Jq n m h hf hn
  obtain ⟨J, l2⟩ := Gy n m h hf hn
  obtain ⟨A, l3⟩ := Kd n m h hf hn
  obtain ⟨K, l4⟩ := Kc n m h hf hn
  obtain ⟨H, l5⟩ := MM n m hf hn
  rw [yw, ye, z, ya, J, ya, A, ya, K, ya, H, ya, Ot n _ (by simp) ?_ hn, ya, if_pos rfl]
  ·rfl
  ·intro x hx
   simp only [yq1, List.not_mem_nil, or_false] at hx
   rcases hx with rfl | rfl | rfl | rfl | rfl <;> omega
end Sx
end
section
namespace Sx
open Go Go.Ab
def mG (recs most : Int) (l : List cQ) : List Int × Bool := if l.all (fF recs) = true then (cL l, decide ((l.length : Int) ≤ most)) else ([], false)
theorem oP (recs h : Int) (l : List cQ) : (mG recs h l).2 = bN recs h l := by
 unfold mG bN
 cases l.all (fF recs) <;> simp
theorem lG {recs z : Int} {l : List cQ} (h : bN recs z l = true) : (mG recs z l).1 = cL l := by
 simp only [bN, yc] at h
 unfold mG
 rw [if_pos h.2]
theorem pN (recs h : Int) (l : List cQ) : (mG recs h l).1.length ≤ 11 + 22 * l.length := by
 unfold mG
 split
 ·exact fB l
 ·simp
theorem nH (n : Nat) (l : List cQ) (recs z : Int) (M : Jy l) (hl : l.length ≤ 5000) (hn : 6000 ≤ n) : qaw n l recs z = some (mG recs z l) := by
 unfold qaw
 have hv := aS l.length
 rw [aC, cW (by omega) (by omega), dS n l.length (by omega) (by omega), ya]
 have h := dW (B := fun s => qaw_B0 n s.1.1 s.1.2.1 s.1.2.2.1 s.1.2.2.2 s.2) (xs := l) (mk := fun i a => ((l, (recs, (z, (i : Int)))), a))
  (I := fun i a => a = bJ l.length ++ (l.take i).flatMap kH ∧ (l.take i).all (fF recs) = true)
  (Q := fun y => (l.all (fF recs) = true ∧ y = Sum.inr ((l, z), cL l)) ∨ (l.all (fF recs) = false ∧ ∃ m, y = Sum.inl (([], false), m)))
  (fun i a x hx hI => ?_) (fun a hI => ?_) l.length 0 n (bJ l.length) (by omega) ⟨by simp, rfl⟩ (by omega)
 ·obtain ⟨y, h1, h2⟩ := h
  rw [show qaw_W0 n ((l, (recs, (z, 0))), bJ l.length) = some y from h1, ya]
  unfold mG
  rcases h2 with ⟨K, rfl⟩ | ⟨K, m, rfl⟩
  ·rw [if_pos K]; rfl
  ·rw [if_neg (by rw [K]; simp)]
 ·have hi := aO hx
  obtain ⟨rfl, H⟩ := hI
  have O := b9 kH 22 (l.take i) fun t _ => fH t
  have U := fH x
  have N : (l.take i).length = i := by rw [yl2]; omega
  have J : qaw_B0 n l recs z (i : Int) (bJ l.length ++ (l.take i).flatMap kH) = (if fF recs x = true then some (Sum.inl ((l, (recs, (z, ((i + 1 : Nat) : Int)))), bJ l.length ++ (l.take i).flatMap kH ++ kH x)) else some (Sum.inr (Sum.inl (([], false), bJ l.length ++ (l.take i).flatMap kH)))) := by
   unfold qaw_B0
   rw [aC, decide_eq_true (by omega), yg, aE, hx, ya, wF, ya, ya, wH n x (M x (yj hx)) (by omega), ya, aU (by simp only [yi]; omega), aH (by omega)]
   cases fF recs x <;> rfl
  by_cases A : fF recs x = true
  ·rw [if_pos A] at J
   exact .inl ⟨_, J, by rw [dF hx, yw1], by rw [fM hx, H, A]; rfl⟩
  ·rw [if_neg A] at J
   exact .inr ⟨_, J, .inr ⟨yT hx (by simpa using A), _, rfl⟩⟩
 ·obtain ⟨rfl, H⟩ := hI
  rw [yi2] at H ⊢
  refine ⟨Sum.inr ((l, z), cL l), ?_, .inl ⟨H, rfl⟩⟩
  show qaw_B0 n l recs z (l.length : Int) _ = _
  unfold qaw_B0
  rw [aC, decide_eq_false (by omega), ye]; rfl
structure pE (m : aW) : Prop where
 n1 : m.recs.length ≤ 200
 n2 : m.funcs.length ≤ 200
 n3 : m.imps.length ≤ 200
 n4 : m.ints.length ≤ 200
 n5 : m.texts.length ≤ 200
 recs : ∀ l ∈ m.recs, l.length ≤ 3000
 funcs : ∀ f ∈ m.funcs, f.1.length ≤ 3000 ∧ f.2.2.2.1.length ≤ 3000 ∧ f.2.2.2.2.length ≤ 3000
 imps : ∀ i ∈ m.imps, i.1.length ≤ 3000
 texts : ∀ s ∈ m.texts, s.size ≤ 3000
abbrev aJ (m : aW) : List (List cQ) × List iT × List Mv × List Int × List ByteArray := (m.recs, (m.funcs, (m.imps, (m.ints, m.texts))))
theorem OL (n : Nat) (m : aW) (H : Fe m) (hL : pE m) (h8 : m.recs.length ≤ 8) (hn : 6000 ≤ n) : ∃ b, qbb_W0 n (((m.recs.length : Int), (true, 0)), (aJ m, bJ m.recs.length)) = some (((m.recs.length : Int), m.recs.all (bN m.recs.length 6)), (aJ m, b)) ∧
  (m.recs.all (bN m.recs.length 6) = true → b = cK cL m.recs) := by
 have hv := aS m.recs.length
 have h := dW (B := fun s => qbb_B0 n s.1.1 s.1.2.1 s.1.2.2 s.2.1.1 s.2.1.2.1 s.2.1.2.2.1 s.2.1.2.2.2.1 s.2.1.2.2.2.2 s.2.2) (xs := m.recs) (mk := fun i (a : Bool × List Int) => (((m.recs.length : Int), (a.1, (i : Int))), (aJ m, a.2)))
  (I := fun i a => a.1 = (m.recs.take i).all (bN m.recs.length 6) ∧ a.2.length ≤ 11 + 70000 * i ∧ (a.1 = true → a.2 = bJ m.recs.length ++ (m.recs.take i).flatMap cL))
  (Q := fun y => ∃ b, y = (((m.recs.length : Int), m.recs.all (bN m.recs.length 6)), (aJ m, b)) ∧ (m.recs.all (bN m.recs.length 6) = true → b = cK cL m.recs))
  (fun i a x hx hI => ?_) (fun a hI => ?_) m.recs.length 0 n (true, bJ m.recs.length) (by omega) ⟨rfl, by simp; omega, fun _ => by simp⟩ (by omega)
 ·obtain ⟨y, h1, b, rfl, h2⟩ := h
  exact ⟨b, h1, h2⟩
 ·have hi := aO hx
  have hm := yj hx
  have K := hL.recs x hm
  have J := pN m.recs.length 6 x
  obtain ⟨h1, h2, A⟩ := hI
  refine .inl ⟨(a.1 && (mG m.recs.length 6 x).2, a.2 ++ (mG m.recs.length 6 x).1), ?_, ?_, ?_, ?_⟩
  ·show qbb_B0 n (m.recs.length : Int) a.1 (i : Int) m.recs m.funcs m.imps m.ints m.texts a.2 = _
   unfold qbb_B0
   rw [decide_eq_true (by omega), yg, aE, hx, ya, nH n x _ _ (H.recs x hm) (by omega) hn, ya, aU (by rw [yi]; omega), yg, aH (by omega)]
   cases a.1 <;> rfl
  ·rw [h1, fM hx, oP]
  ·simp only [yi]; omega
  ·intro z
   simp only [yc, oP] at z
   simp only []
   rw [A z.1, lG z.2, dF hx, yw1]
 ·obtain ⟨h1, h2, A⟩ := hI
  rw [yi2] at h1 A
  refine ⟨_, ?_, a.2, rfl, fun z => A (h1.trans z)⟩
  show qbb_B0 n (m.recs.length : Int) a.1 (m.recs.length : Int) m.recs m.funcs m.imps m.ints m.texts a.2 = _
  unfold qbb_B0
  rw [decide_eq_false (by omega), ye, h1]
theorem OZ (n : Nat) (m : aW) (J : Int) (j : Int) (H h : List Int) (f : iT) (hc : f.2.2.2.2.length ≤ 64) (U : h.length ≤ 4000000) (hn : 6000 ≤ n) :
  ∃ y, qbb_W4 n ((J, (true, (j, 0))), (aJ m, (H, (h, f)))) = some y ∧
   ((f.2.2.2.2.any jC = false ∧ y = Sum.inr ((J, (true, j)), (aJ m, (H, (h ++ f.2.2.2.2.flatMap kR, f))))) ∨ (f.2.2.2.2.any jC = true ∧ ∃ z, y = Sum.inl (([], false), z))) := by
 refine dW (B := fun s => qbb_B4 n s.1.1 s.1.2.1 s.1.2.2.1 s.1.2.2.2 s.2.1.1 s.2.1.2.1 s.2.1.2.2.1 s.2.1.2.2.2.1 s.2.1.2.2.2.2 s.2.2.1 s.2.2.2.1 s.2.2.2.2.1 s.2.2.2.2.2.1 s.2.2.2.2.2.2.1 s.2.2.2.2.2.2.2.1 s.2.2.2.2.2.2.2.2) (xs := f.2.2.2.2)
  (mk := fun i (a : List Int) => ((J, (true, (j, (i : Int)))), (aJ m, (H, (a, f))))) (I := fun i a => a = h ++ (f.2.2.2.2.take i).flatMap kR ∧ (f.2.2.2.2.take i).any jC = false) (fun i a x hx hI => ?_) (fun a hI => ?_) f.2.2.2.2.length 0 n h (by omega) ⟨by simp, rfl⟩ (by omega)
 ·have hi := aO hx
  obtain ⟨rfl, K⟩ := hI
  have V := b9 kR 23 (f.2.2.2.2.take i) fun t _ => qQ t
  have W := qQ x
  have N : (f.2.2.2.2.take i).length = i := by rw [yl2]; omega
  have O : (((kR x).length : Int) == 0) = jC x := by
   rw [← HA]
   cases (kR x).length <;> rfl
  have M : qbb_B4 n J true j (i : Int) m.recs m.funcs m.imps m.ints m.texts H (h ++ (f.2.2.2.2.take i).flatMap kR) f.1 f.2.1 f.2.2.1 f.2.2.2.1 f.2.2.2.2 =
    (if jC x = true then some (Sum.inr (Sum.inl (([], false), (aJ m, (H, (h ++ (f.2.2.2.2.take i).flatMap kR, f)))))) else some (Sum.inl ((J, (true, (j, ((i + 1 : Nat) : Int)))), (aJ m, (H, (h ++ (f.2.2.2.2.take i).flatMap kR ++ kR x, f)))))) := by
   unfold qbb_B4
   rw [aC, decide_eq_true (by omega), yg, aE, hx, ya, Io n x (by omega), ya, aC, O, aU (by simp only [yi]; omega), aH (by omega)]
   cases jC x <;> rfl
  by_cases A : jC x = true
  ·rw [if_pos A] at M
   exact .inr ⟨_, M, .inr ⟨List.any_eq_true.2 ⟨x, yj hx, A⟩, _, rfl⟩⟩
  ·rw [if_neg A] at M
   refine .inl ⟨_, M, by rw [dF hx, yw1], ?_⟩
   rw [yb3, hx, List.any_append, K]
   simpa using A
 ·obtain ⟨rfl, K⟩ := hI
  rw [yi2] at K ⊢
  refine ⟨_, ?_, .inl ⟨K, rfl⟩⟩
  show qbb_B4 n J true j (f.2.2.2.2.length : Int) m.recs m.funcs m.imps m.ints m.texts H (h ++ f.2.2.2.2.flatMap kR) f.1 f.2.1 f.2.2.1 f.2.2.2.1 f.2.2.2.2 = _
  unfold qbb_B4
  rw [aC, decide_eq_false (by omega), ye]
theorem Ns (n : Nat) (m : aW) (ho : Fe m) (hL : pE m) (h1 : 1 ≤ m.funcs.length) (h8 : m.funcs.length ≤ 8) (ok : Bool) (V : List Int) (hn : 6000 ≤ n) :
  ∃ y, qbb_W2 n (((m.recs.length : Int), (ok, 0)), (aJ m, (V, bJ m.funcs.length))) = some y ∧
   (((ok && m.funcs.all (oQ m.recs.length)) = true ∧ y = Sum.inr (((m.recs.length : Int), true), (aJ m, (V, cK o6 m.funcs)))) ∨ ((ok && m.funcs.all (oQ m.recs.length)) = false ∧ ∃ z, y = Sum.inl (([], false), z))) := by
 have hv := aS m.funcs.length
 refine dW (B := fun s => qbb_B2 n s.1.1 s.1.2.1 s.1.2.2 s.2.1.1 s.2.1.2.1 s.2.1.2.2.1 s.2.1.2.2.2.1 s.2.1.2.2.2.2 s.2.2.1 s.2.2.2) (xs := m.funcs) (mk := fun i (a : Bool × List Int) => (((m.recs.length : Int), (a.1, (i : Int))), (aJ m, (V, a.2))))
  (I := fun i a => (i = 0 → a.1 = ok) ∧ (0 < i → a.1 = true ∧ ok = true) ∧ (m.funcs.take i).all (oQ m.recs.length) = true ∧ a.2 = bJ m.funcs.length ++ (m.funcs.take i).flatMap o6)
  (fun i a x hx hI => ?_) (fun a hI => ?_) m.funcs.length 0 n (ok, bJ m.funcs.length) (by omega) ⟨fun _ => rfl, fun h => by omega, rfl, by simp⟩ (by omega)
 ·have hi := aO hx
  have hm := yj hx
  obtain ⟨l1, l2, l3⟩ := hL.funcs x hm
  obtain ⟨o1, o2, o3⟩ := ho.funcs x hm
  obtain ⟨ia, ib, hg, H⟩ := hI
  have htl : (m.funcs.take i).length = i := by rw [yl2]; omega
  have hfl := b9 o6 1900 (m.funcs.take i) fun t ht => (qO (yx.1 hg t ht)).2.2.2.2
  have hal : a.2.length ≤ 20000 := by rw [H, yi]; omega
  have U : a.1 = ok := by
   rcases Nat.eq_zero_or_pos i with h | h
   ·exact ia h
   ·obtain ⟨e1, e2⟩ := ib h; rw [e1, e2]
  have exit : (a.1 && oQ m.recs.length x) = false → (ok && m.funcs.all (oQ m.recs.length)) = false := by
   intro h
   rw [U] at h
   cases ok with
   | false => rfl
   | true =>
    have h : oQ m.recs.length x = false := h
    rw [yu]; exact yT hx h
  obtain ⟨M, k, N, O, J⟩ := x
  simp only at l1 l2 l3 o1 o2 o3
  have t1 := pN m.recs.length 4 M
  have t2 := pN m.recs.length (8 - (M.length : Int)) O
  have t3 := fH (k, N)
  have t4 := aS J.length
  have A : ∀ s, qbb_B2 n (m.recs.length : Int) a.1 (i : Int) m.recs m.funcs m.imps m.ints m.texts V a.2 = s → (fun s => qbb_B2 n s.1.1 s.1.2.1 s.1.2.2 s.2.1.1 s.2.1.2.1 s.2.1.2.2.1 s.2.1.2.2.2.1 s.2.1.2.2.2.2 s.2.2.1 s.2.2.2) (((m.recs.length : Int), (a.1, (i : Int))), (aJ m, (V, a.2))) = s := fun s h => h
  unfold qbb_B2 at A
  rw [aC, decide_eq_true (by omega), yg, aE, hx, ya] at A
  simp only [] at A
  rw [nH n M _ _ o1 (by omega) hn, ya, aC, bW (by omega) (by omega), nH n O _ _ o3 (by omega) hn, ya, oP, oP, wF n (k, N), ya, aC] at A
  have W : oQ m.recs.length (M, k, N, O, J) = (bN m.recs.length 4 M && (fF m.recs.length (k, N) && (bN m.recs.length (8 - (M.length : Int)) O && (decide (1 ≤ J.length) && (decide (J.length ≤ 64) && !J.any jC))))) := rfl
  rw [W] at exit
  cases Z : a.1 with
  | false =>
   rw [Z] at A exit
   exact .inr ⟨_, A _ rfl, .inr ⟨exit rfl, _, rfl⟩⟩
  | true =>
   rw [Z] at A exit
   cases g1 : bN m.recs.length 4 M with
   | false =>
    rw [g1] at A exit
    exact .inr ⟨_, A _ rfl, .inr ⟨exit rfl, _, rfl⟩⟩
   | true =>
    rw [g1] at A exit
    cases g2 : bN m.recs.length (8 - (M.length : Int)) O with
    | false =>
     rw [g2] at A exit
     exact .inr ⟨_, A _ rfl, .inr ⟨exit (by simp), _, rfl⟩⟩
    | true =>
     rw [g2] at A exit
     cases g3 : fF m.recs.length (k, N) with
     | false =>
      rw [g3] at A exit
      exact .inr ⟨_, A _ rfl, .inr ⟨exit (by simp), _, rfl⟩⟩
     | true =>
      rw [g3] at A exit
      by_cases c1 : 1 ≤ J.length
      ·rw [decide_eq_true (by omega : (J.length : Int) ≥ 1)] at A
       rw [decide_eq_true c1] at exit
       by_cases c2 : J.length ≤ 64
       ·rw [decide_eq_true (by omega : (J.length : Int) ≤ 64)] at A
        rw [decide_eq_true c2] at exit
        rw [lG g1] at A t1
        rw [lG g2] at A t2
        simp only [yg, yw, ye] at A
        rw [aU (by simp only [yi]; omega), yg, wH n (k, N) o2 (by omega), ya, aU (by simp only [yi]; omega), yg, aU (by simp only [yi]; omega), yg, cW (by omega) (by omega), dS n J.length (by omega) (by omega),
         ya, aU (by simp only [yi]; omega), yg] at A
        obtain ⟨y, hy, Y⟩ := OZ n m (m.recs.length : Int) (i : Int) V ((((a.2 ++ cL M) ++ kH (k, N)) ++ cL O) ++ bJ J.length) (M, k, N, O, J) c2 (by simp only [yi]; omega) hn
        rw [show qbb_W4 n (((m.recs.length : Int), (true, ((i : Int), 0))), ((m.recs, (m.funcs, (m.imps, (m.ints, m.texts)))), (V, (((((a.2 ++ cL M) ++ kH (k, N)) ++ cL O) ++ bJ J.length), (M, (k, (N, (O, J)))))))) = some y from hy, ya] at A
        rcases Y with ⟨K, rfl⟩ | ⟨K, z, rfl⟩
        ·simp only [] at A
         rw [aH (by omega)] at A
         refine .inl ⟨(true, ((((a.2 ++ cL M) ++ kH (k, N)) ++ cL O) ++ bJ J.length) ++ J.flatMap kR), A _ rfl, fun h => by omega, fun _ => ⟨rfl, U.symm.trans Z⟩, ?_, ?_⟩
         ·rw [fM hx, hg, W, g1, g2, g3, decide_eq_true c1, decide_eq_true c2, K]; rfl
         ·rw [dF hx, H]
          simp only [o6, yw1]
        ·exact .inr ⟨_, A _ rfl, .inr ⟨exit (by simp only [] at K; rw [K]; rfl), _, rfl⟩⟩
       ·rw [decide_eq_false (by omega : ¬ (J.length : Int) ≤ 64)] at A
        rw [decide_eq_false c2] at exit
        exact .inr ⟨_, A _ rfl, .inr ⟨exit (by simp), _, rfl⟩⟩
      ·rw [decide_eq_false (by omega : ¬ (J.length : Int) ≥ 1)] at A
       rw [decide_eq_false c1] at exit
       exact .inr ⟨_, A _ rfl, .inr ⟨exit (by simp), _, rfl⟩⟩
 ·obtain ⟨ia, ib, hg, H⟩ := hI
  rw [yi2] at hg H
  obtain ⟨Z, U⟩ := ib (by omega)
  refine ⟨_, ?_, .inl ⟨by rw [U, hg]; rfl, rfl⟩⟩
  show qbb_B2 n (m.recs.length : Int) a.1 (m.funcs.length : Int) m.recs m.funcs m.imps m.ints m.texts V a.2 = _
  unfold qbb_B2
  rw [aC, decide_eq_false (by omega), ye, Z, H]
  rfl
end Sx
end
section
namespace Sx
open Go Go.Ab
theorem NZ (n : Nat) (m : aW) (W : Fe m) (hL : pE m) (h8 : m.imps.length ≤ 8) (K J : List Int) (hn : 6000 ≤ n) :
  ∃ b, qbb_W6 n (((m.recs.length : Int), (true, 0)), (aJ m, (K, (J, bJ m.imps.length)))) = some (m.imps.all (qI m.recs.length), (aJ m, (K, (J, b)))) ∧ b.length ≤ 2000000 ∧ (m.imps.all (qI m.recs.length) = true → b = cK A3 m.imps) := by
 have hv := aS m.imps.length
 have h := dW (B := fun s => qbb_B6 n s.1.1 s.1.2.1 s.1.2.2 s.2.1.1 s.2.1.2.1 s.2.1.2.2.1 s.2.1.2.2.2.1 s.2.1.2.2.2.2 s.2.2.1 s.2.2.2.1 s.2.2.2.2) (xs := m.imps) (mk := fun i (a : Bool × List Int) => (((m.recs.length : Int), (a.1, (i : Int))), (aJ m, (K, (J, a.2)))))
  (I := fun i a => a.1 = (m.imps.take i).all (qI m.recs.length) ∧ a.2.length ≤ 11 + 70000 * i ∧ (a.1 = true → a.2 = bJ m.imps.length ++ (m.imps.take i).flatMap A3))
  (Q := fun y => ∃ b, y = (m.imps.all (qI m.recs.length), (aJ m, (K, (J, b)))) ∧ b.length ≤ 2000000 ∧ (m.imps.all (qI m.recs.length) = true → b = cK A3 m.imps))
  (fun i a x hx hI => ?_) (fun a hI => ?_) m.imps.length 0 n (true, bJ m.imps.length) (by omega) ⟨rfl, by simp; omega, fun _ => by simp⟩ (by omega)
 ·obtain ⟨y, h1, b, rfl, h2⟩ := h
  exact ⟨b, h1, h2⟩
 ·have hi := aO hx
  have hm := yj hx
  have O := hL.imps x hm
  obtain ⟨V, U⟩ := W.imps x hm
  obtain ⟨H, k, A⟩ := x
  simp only at O V U
  have Y := pN m.recs.length 4 H
  have t3 := fH (k, A)
  obtain ⟨h1, h2, N⟩ := hI
  have z : qI m.recs.length (H, k, A) = (bN m.recs.length 4 H && fF m.recs.length (k, A)) := rfl
  refine .inl ⟨(a.1 && qI m.recs.length (H, k, A), a.2 ++ (mG m.recs.length 4 H).1 ++ kH (k, A)), ?_, ?_, ?_, ?_⟩
  ·show qbb_B6 n (m.recs.length : Int) a.1 (i : Int) m.recs m.funcs m.imps m.ints m.texts K J a.2 = _
   unfold qbb_B6
   rw [aC, decide_eq_true (by omega), yg, aE, hx, ya]
   simp only [ya]
   rw [nH n H _ _ V (by omega) hn, ya, oP, wF n (k, A), wH n (k, A) U (by omega), z]
   simp only [ya]
   rw [aU (by simp only [yi]; omega), aU (by simp only [yi]; omega), aH (by omega)]
   cases a.1 <;> cases bN m.recs.length 4 H <;> rfl
  ·rw [h1, fM hx]
  ·simp only [yi]; omega
  ·intro M
   simp only [yc, z] at M
   simp only []
   rw [N M.1, lG M.2.1, dF hx]
   simp only [A3, yw1]
 ·obtain ⟨h1, h2, N⟩ := hI
  rw [yi2] at h1 N
  refine ⟨_, ?_, a.2, rfl, by omega, fun M => N (h1.trans M)⟩
  show qbb_B6 n (m.recs.length : Int) a.1 (m.imps.length : Int) m.recs m.funcs m.imps m.ints m.texts K J a.2 = _
  unfold qbb_B6
  rw [aC, decide_eq_false (by omega), ye, h1]
theorem Ps {v : Nat} (hv : v < 18446744073709551616) : My .u64 (v : Int) 256 = ((v / 256 : Nat) : Int) := by
 show IntKind.u64.wrap ((v : Int).tdiv 256) = _
 rw [Int.tdiv_eq_ediv_of_nonneg (by omega), zH]
 omega
theorem GH (n : Nat) (v : Nat) (H : v < 18446744073709551616) (hn : 20 ≤ n) : qcl n (v : Int) 8 = some (s5 8 v) := by
 have h := dW (B := fun s => qcl_B0 n s.1.1 s.1.2.1 s.1.2.2 s.2) (xs := List.range 8) (mk := fun i (a : List Int) => ((((v / 256 ^ i : Nat) : Int), ((8 : Int), (i : Int))), a)) (I := fun i a => a = (List.range i).map fun j => ((v / 256 ^ j % 256 : Nat) : Int)) (Q := fun y => y = s5 8 v)
  (fun i a x hx hI => ?_) (fun a hI => ?_) 8 0 n [] (by simp) rfl (by omega)
 ·obtain ⟨y, h1, rfl⟩ := h
  unfold qcl
  rw [Nat.pow_zero, Nat.div_one] at h1
  rw [show qcl_W0 n (((v : Int), ((8 : Int), 0)), []) = _ from h1]
  rfl
 ·have A := aO hx
  rw [yj2] at A
  subst hI
  have z : v / 256 ^ i < 18446744073709551616 := Nat.lt_of_le_of_lt (Nat.div_le_self _ _) H
  have K : v / 256 ^ (i + 1) = v / 256 ^ i / 256 := by rw [Nat.pow_succ, Nat.div_div_eq_div_mul]
  have J : (List.range (i + 1)).map (fun j => ((v / 256 ^ j % 256 : Nat) : Int)) = (List.range i).map (fun j => ((v / 256 ^ j % 256 : Nat) : Int)) ++ [((v / 256 ^ i % 256 : Nat) : Int)] := by
   rw [List.range_succ, List.map_append]; rfl
  refine .inl ⟨_, ?_, rfl⟩
  rw [K, J]
  generalize v / 256 ^ i = q at z
  show qcl_B0 n (q : Int) 8 (i : Int) ((List.range i).map fun j => ((v / 256 ^ j % 256 : Nat) : Int)) = _
  unfold qcl_B0
  rw [decide_eq_true (by omega), yg, yg, A9 (by omega), pS (by omega) (by omega), Ps z, aU (by simp; omega), yg, aH (by omega)]
  rfl
 ·subst hI
  refine ⟨_, ?_, rfl⟩
  rfl
theorem Ox (n : Nat) (m : aW) (M : Fe m) (O : m.ints.length ≤ 16) (ok : Bool) (A z H : List Int) (hn : 6000 ≤ n) :
  qbb_W8 n ((ok, 0), (aJ m, (A, (z, (H, bJ m.ints.length))))) = some (ok, (aJ m, (A, (z, (H, cK (fun v => s5 8 v.toNat) m.ints))))) := by
 have hv := aS m.ints.length
 have h := dY (B := fun s => qbb_B8 n s.1.1 s.1.2 s.2.1.1 s.2.1.2.1 s.2.1.2.2.1 s.2.1.2.2.2.1 s.2.1.2.2.2.2 s.2.2.1 s.2.2.2.1 s.2.2.2.2.1 s.2.2.2.2.2) (xs := m.ints) (mk := fun i a => ((ok, (i : Int)), (aJ m, (A, (z, (H, a)))))) (f := fun v => s5 8 v.toNat)
  (e := fun a => (ok, (aJ m, (A, (z, (H, a)))))) (c := 8) (m0 := bJ m.ints.length) (cap := 40000) (fun x hx => by rw [l6]; omega) (by omega) (fun i a x hx J K => ?_) (fun a => ?_) (n := n) (by omega)
 ·exact h
 ·have hi := aO hx
  have N := M.ints x J
  obtain ⟨u, rfl⟩ : ∃ u : Nat, x = (u : Int) := ⟨x.toNat, by omega⟩
  show qbb_B8 n ok (i : Int) m.recs m.funcs m.imps m.ints m.texts A z H a = _
  unfold qbb_B8
  rw [l6] at K
  rw [aC, decide_eq_true (by omega), yg, aE, hx, ya, GH n u (by omega) (by omega), ya, aU (by rw [yi, l6]; omega), yg, aH (by omega), yb1]
 ·show qbb_B8 n ok (m.ints.length : Int) m.recs m.funcs m.imps m.ints m.texts A z H a = _
  unfold qbb_B8
  rw [aC, decide_eq_false (by omega), ye]
theorem I4 {s : ByteArray} : (s8 s).length ≤ 11 + s.size := by
 have := aS s.size
 rw [s8, yi, jV]; omega
theorem MV (n : Nat) (m : aW) (hL : pE m) (O : m.texts.length ≤ 16) (ok : Bool) (H A J z : List Int) (hn : 6000 ≤ n) :
  qbb_W10 n ((ok, 0), (aJ m, (H, (A, (J, (z, bJ m.texts.length)))))) = some (ok && m.texts.all fun s => decide (s.size ≤ 32), (aJ m, (H, (A, (J, (z, cK s8 m.texts)))))) := by
 have hv := aS m.texts.length
 have h := dW (B := fun s => qbb_B10 n s.1.1 s.1.2 s.2.1.1 s.2.1.2.1 s.2.1.2.2.1 s.2.1.2.2.2.1 s.2.1.2.2.2.2 s.2.2.1 s.2.2.2.1 s.2.2.2.2.1 s.2.2.2.2.2.1 s.2.2.2.2.2.2) (xs := m.texts) (mk := fun i (a : Bool × List Int) => ((a.1, (i : Int)), (aJ m, (H, (A, (J, (z, a.2)))))))
  (I := fun i a => a.1 = (ok && (m.texts.take i).all fun s => decide (s.size ≤ 32)) ∧ a.2.length ≤ 11 + 3011 * i ∧ a.2 = bJ m.texts.length ++ (m.texts.take i).flatMap s8)
  (Q := fun y => y = (ok && m.texts.all fun s => decide (s.size ≤ 32), (aJ m, (H, (A, (J, (z, cK s8 m.texts)))))))
  (fun i a x hx hI => ?_) (fun a hI => ?_) m.texts.length 0 n (ok, bJ m.texts.length) (by omega) ⟨by simp, by simp; omega, by simp⟩ (by omega)
 ·obtain ⟨y, h1, rfl⟩ := h
  exact h1
 ·have hi := aO hx
  have hs := hL.texts x (yj hx)
  have N := aS x.size
  obtain ⟨h1, h2, K⟩ := hI
  have M : decide (w6 x ≤ 32) = decide (x.size ≤ 32) := by
   unfold w6
   by_cases h : x.size ≤ 32
   ·rw [decide_eq_true h, decide_eq_true (by omega)]
   ·rw [decide_eq_false h, decide_eq_false (by omega)]
  refine .inl ⟨(a.1 && decide (x.size ≤ 32), a.2 ++ s8 x), ?_, ?_, ?_, ?_⟩
  ·show qbb_B10 n a.1 (i : Int) m.recs m.funcs m.imps m.ints m.texts H A J z a.2 = _
   unfold qbb_B10
   rw [aC, decide_eq_true (by omega), yg, aE, hx]
   simp only [ya]
   rw [show aY .u64 (w6 x) = ((x.size : Nat) : Int) from cW (a := ((x.size : Nat) : Int)) (by omega) (by omega), dS n x.size (by omega) (by omega)]
   simp only [ya]
   rw [aU (by rw [yi]; omega), aU (by simp only [yi, jV]; omega), aH (by omega), M]
   cases a.1 <;> simp [s8]
  ·simp only []
   rw [h1, fM hx, Bool.and_assoc]
  ·have := I4 (s := x)
   simp only [yi]; omega
  ·simp only []
   rw [K, dF hx, yw1]
 ·obtain ⟨h1, h2, K⟩ := hI
  rw [yi2] at h1 K
  refine ⟨_, ?_, rfl⟩
  show qbb_B10 n a.1 (m.texts.length : Int) m.recs m.funcs m.imps m.ints m.texts H A J z a.2 = _
  unfold qbb_B10
  rw [aC, decide_eq_false (by omega), ye, h1, K]
  rfl
theorem Ke (n : Nat) (l : List (List Int)) (hl : l.length ≤ 100) (H : ∀ x ∈ l, x.length ≤ 3000000) (hn : 200 ≤ n) : qdl n l = some (MP l) := by
 have hv := aS l.length
 have A : ∀ x ∈ l, (bJ x.length ++ x).length ≤ 3000011 := fun x hx => by
  have := aS x.length
  have := H x hx
  rw [yi]; omega
 unfold qdl
 rw [aC, cW (by omega) (by omega), dS n l.length (by omega) (by omega), ya]
 have h := dY (B := fun s => qdl_B0 n s.1.1 s.1.2 s.2) (xs := l) (mk := fun i a => ((l, (i : Int)), a)) (f := fun p => bJ p.length ++ p) (e := id) (c := 3000011) (m0 := bJ l.length) (cap := 400000000)
  A (by omega) (fun i a x hx z J => ?_) (fun a => ?_) (n := n) (by omega)
 ·rw [show qdl_W0 n ((l, 0), bJ l.length) = _ from h, ya]
  rfl
 ·have hi := aO hx
  have K := aS x.length
  have M := H x z
  rw [yi] at J
  show qdl_B0 n l (i : Int) a = _
  unfold qdl_B0
  rw [aC, decide_eq_true (by omega), yg, aE, hx]
  simp only [ya]
  rw [aC, cW (by omega) (by omega), dS n x.length (by omega) (by omega), ya, aU (by rw [yi]; omega), yg, aU (by simp only [yi]; omega), yg, aH (by omega), yw1]
 ·show qdl_B0 n l (l.length : Int) a = _
  unfold qdl_B0
  rw [aC, decide_eq_false (by omega), ye]; rfl
theorem GK (n : Nat) (m : aW) (N : Fe m) (hL : pE m) (hn : 6000 ≤ n) : ∃ b, qbb n m.recs m.funcs m.imps m.ints m.texts = some (b, cM m) ∧ (cM m = true → b = BX m) := by
 unfold qbb
 rw [aC m.recs, aC m.funcs, aC m.imps, aC m.ints, aC m.texts]
 have K : cM m = false → ∃ b : List Int, some (([] : List Int), false) = some (b, cM m) ∧ (cM m = true → b = BX m) := fun h => ⟨[], by rw [h], fun Z => by rw [h] at Z; cases Z⟩
 by_cases h1 : m.recs.length ≤ 8
 case neg =>
  rw [decide_eq_true (by omega : (m.recs.length : Int) > 8), yg]
  exact K (by unfold cM; rw [decide_eq_false h1]; rfl)
 rw [decide_eq_false (by omega : ¬ (m.recs.length : Int) > 8), ye]
 by_cases h2 : 1 ≤ m.funcs.length
 case neg =>
  rw [decide_eq_true (by omega : (m.funcs.length : Int) < 1), yg]
  exact K (by unfold cM; rw [decide_eq_false h2]; simp)
 rw [decide_eq_false (by omega : ¬ (m.funcs.length : Int) < 1), ye]
 by_cases W : m.funcs.length ≤ 8
 case neg =>
  rw [decide_eq_true (by omega : (m.funcs.length : Int) > 8), yg]
  exact K (by unfold cM; rw [decide_eq_false W]; simp)
 rw [decide_eq_false (by omega : ¬ (m.funcs.length : Int) > 8), ye]
 by_cases O : m.imps.length ≤ 8
 case neg =>
  rw [decide_eq_true (by omega : (m.imps.length : Int) > 8), yg]
  exact K (by unfold cM; rw [decide_eq_false O]; simp)
 rw [decide_eq_false (by omega : ¬ (m.imps.length : Int) > 8), ye]
 by_cases V : m.ints.length ≤ 16
 case neg =>
  rw [decide_eq_true (by omega : (m.ints.length : Int) > 16), yg]
  exact K (by unfold cM; rw [decide_eq_false V]; simp)
 rw [decide_eq_false (by omega : ¬ (m.ints.length : Int) > 16), ye]
 by_cases U : m.texts.length ≤ 16
 case neg =>
  rw [decide_eq_true (by omega : (m.texts.length : Int) > 16), yg]
  exact K (by unfold cM; rw [decide_eq_false U]; simp)
 rw [decide_eq_false (by omega : ¬ (m.texts.length : Int) > 16), ye]
 have A : cM m = (m.recs.all (bN m.recs.length 6) && m.funcs.all (oQ m.recs.length) && (m.imps.all (qI m.recs.length) && m.texts.all fun s => decide (s.size ≤ 32))) := by
  unfold cM
  rw [decide_eq_true h1, decide_eq_true h2, decide_eq_true W, decide_eq_true O, decide_eq_true V, decide_eq_true U]
  simp only [yu, Bool.and_assoc]
 obtain ⟨J, e1, Y⟩ := OL n m N hL h1 hn
 obtain ⟨y, e2, p2⟩ := Ns n m N hL h2 W (m.recs.all (bN m.recs.length 6)) J hn
 rw [cW (by omega) (by omega), dS n m.recs.length (by omega) (by omega), ya]
 rw [show qbb_W0 n (((m.recs.length : Int), (true, 0)), ((m.recs, (m.funcs, (m.imps, (m.ints, m.texts)))), bJ m.recs.length)) = _ from e1, ya]
 simp only []
 rw [aC m.funcs, cW (by omega) (by omega), dS n m.funcs.length (by omega) (by omega), ya]
 rw [show qbb_W2 n (((m.recs.length : Int), (m.recs.all (bN m.recs.length 6), 0)), ((m.recs, (m.funcs, (m.imps, (m.ints, m.texts)))), (J, bJ m.funcs.length))) = _ from e2, ya]
 rcases p2 with ⟨hf, rfl⟩ | ⟨hf, z, rfl⟩
 ·have H := hf
  rw [yc] at H
  obtain ⟨M, e3, l3, p3⟩ := NZ n m N hL O J (cK o6 m.funcs) hn
  simp only []
  rw [aC m.imps, cW (by omega) (by omega), dS n m.imps.length (by omega) (by omega), ya]
  rw [show qbb_W6 n (((m.recs.length : Int), (true, 0)), ((m.recs, (m.funcs, (m.imps, (m.ints, m.texts)))), (J, (cK o6 m.funcs, bJ m.imps.length)))) = _ from e3, ya]
  simp only []
  rw [aC m.ints, cW (by omega) (by omega), dS n m.ints.length (by omega) (by omega), ya]
  rw [show qbb_W8 n ((m.imps.all (qI m.recs.length), 0), ((m.recs, (m.funcs, (m.imps, (m.ints, m.texts)))), (J, (cK o6 m.funcs, (M, bJ m.ints.length))))) = _ from Ox n m N V _ J _ M hn, ya]
  simp only []
  rw [aC m.texts, cW (by omega) (by omega), dS n m.texts.length (by omega) (by omega), ya]
  rw [show qbb_W10 n ((m.imps.all (qI m.recs.length), 0), ((m.recs, (m.funcs, (m.imps, (m.ints, m.texts)))), (J, (cK o6 m.funcs, (M, (cK (fun v => s5 8 v.toNat) m.ints, bJ m.texts.length)))))) = _ from MV n m hL U _ J _ M _ hn, ya]
  simp only []
  have v1 := aS m.recs.length
  have v2 := aS m.funcs.length
  have v4 := aS m.ints.length
  have v5 := aS m.texts.length
  have c1 := b9 cL 143 m.recs fun x hx => by
   have := fB x
   have := iH (yx.1 H.1 x hx)
   omega
  have c2 := b9 o6 1900 m.funcs fun x hx => (qO (yx.1 H.2 x hx)).2.2.2.2
  have c4 := b9 (fun v : Int => s5 8 v.toNat) 8 m.ints fun x hx => by rw [l6]; omega
  have c5 := b9 s8 3011 m.texts fun x hx => by
   have := I4 (s := x)
   have := hL.texts x hx
   omega
  rw [Ke n [J, cK o6 m.funcs, M, cK (fun v => s5 8 v.toNat) m.ints, cK s8 m.texts] (by simp) ?_ (by omega), ya]
  ·refine ⟨_, by rw [A, H.1, H.2]; rfl, fun h => ?_⟩
   rw [A, yc, yc (m.imps.all _)] at h
   rw [Y H.1, p3 h.2.1]
   rfl
  ·intro x hx
   simp only [yq1, List.not_mem_nil, or_false] at hx
   rcases hx with rfl | rfl | rfl | rfl | rfl
   ·rw [Y H.1, cK, yi]; omega
   ·rw [cK, yi]; omega
   ·omega
   ·rw [cK, yi]; omega
   ·rw [cK, yi]; omega
 ·exact K (by rw [A, hf]; rfl)
end Sx
end
section
namespace Sx
open Go Go.Ab
structure MJ (m : aW) : Prop where
 n1 : m.recs.length ≤ 140737488351232
 n2 : m.funcs.length ≤ 140737488351232
 n3 : m.imps.length ≤ 140737488351232
 n4 : m.ints.length ≤ 140737488351232
 n5 : m.texts.length ≤ 140737488351232
 recs : ∀ l ∈ m.recs, l.length ≤ 140737488351232
 funcs : ∀ f ∈ m.funcs, f.1.length ≤ 140737488351232 ∧ f.2.2.2.1.length ≤ 140737488351232 ∧ f.2.2.2.2.length ≤ 140737488351232
 imps : ∀ i ∈ m.imps, i.1.length ≤ 140737488351232
 texts : ∀ s ∈ m.texts, s.size ≤ 140737488351232
theorem oU {S X A : Type} {B : S → Option (S ⊕ X)} {xs : List A} {mk : Nat → Int → S} {f : A → Nat} {e : Int → X} {c : Nat} {base : Int} (hb : 0 ≤ base) (W : ∀ x ∈ xs, f x ≤ c) (M : base + (c : Int) * (xs.length : Int) ≤ 9000000000000000000)
  (V : ∀ i a x, xs[i]? = some x → x ∈ xs → 0 ≤ a → a + (f x : Int) ≤ 9000000000000000000 → B (mk i a) = some (.inl (mk (i + 1) (a + (f x : Int))))) (Y : ∀ a, B (mk xs.length a) = some (.inr (e a))) {n : Nat} (hn : xs.length < n) :
  ∃ a, aL B n (mk 0 base) = some (e a) ∧ base ≤ a ∧ a ≤ base + (c : Int) * (xs.length : Int) ∧ ∀ x ∈ xs, (f x : Int) ≤ a := by
 have h := dW (B := B) (xs := xs) (mk := mk) (I := fun i a => base ≤ a ∧ a ≤ base + (c : Int) * (i : Int) ∧ ∀ x ∈ xs.take i, (f x : Int) ≤ a) (Q := fun y => ∃ a, y = e a ∧ base ≤ a ∧ a ≤ base + (c : Int) * (xs.length : Int) ∧ ∀ x ∈ xs, (f x : Int) ≤ a)
  (fun i a x hx hI => ?_) (fun a hI => ?_) xs.length 0 n base (by omega) ⟨Int.le_refl _, by simp, by simp⟩ hn
 ·obtain ⟨y, h1, a, rfl, h2⟩ := h
  exact ⟨a, h1, h2⟩
 ·have U := aO hx
  have hm := yj hx
  have O := W x hm
  obtain ⟨h1, h2, K⟩ := hI
  have N : (c : Int) * (i : Int) + (c : Int) ≤ (c : Int) * (xs.length : Int) := by
   have : (c * (i + 1) : Nat) ≤ c * xs.length := Nat.mul_le_mul_left c U
   rw [Nat.mul_succ] at this
   have h := Int.ofNat_le.2 this
   simpa using h
  have J : (c : Int) * ((i + 1 : Nat) : Int) = (c : Int) * (i : Int) + (c : Int) := by
   rw [Int.natCast_add, Int.mul_add]; simp
  refine .inl ⟨_, V i a x hx hm (by omega) (by omega), by omega, by rw [J]; omega, fun z H => ?_⟩
  rw [yb3, hx, yb2] at H
  rcases H with H | H
  ·have := K z H; omega
  ·simp at H; subst H; omega
 ·obtain ⟨h1, h2, K⟩ := hI
  rw [yi2] at K
  exact ⟨_, Y a, a, rfl, h1, h2, K⟩
theorem dK {a b : Int} (h1 : 0 ≤ a) (h2 : 0 ≤ b) (h3 : a + b ≤ 9000000000000000000) : aI .i64 a b = a + b := cN (by omega) (by omega)
theorem rF (n : Nat) (m : aW) (hl : MJ m) (hn : 6000 ≤ n) : ∃ b, qbw n m.recs m.funcs m.imps m.ints m.texts = some b ∧ (b = true → pE m) := by
 unfold qbw
 have n1 := hl.n1
 have n2 := hl.n2
 have n3 := hl.n3
 have n4 := hl.n4
 have n5 := hl.n5
 have W : aI .i64 (aI .i64 (aI .i64 (aI .i64 (aA m.recs) (aA m.funcs)) (aA m.imps)) (aA m.ints)) (aA m.texts) = ((m.recs.length + m.funcs.length + m.imps.length + m.ints.length + m.texts.length : Nat) : Int) := by
  simp only [aC]
  rw [dK (b := ((m.funcs.length : Nat) : Int)) (by omega) (by omega) (by omega), dK (b := ((m.imps.length : Nat) : Int)) (by omega) (by omega) (by omega), dK (b := ((m.ints.length : Nat) : Int)) (by omega) (by omega) (by omega), dK (b := ((m.texts.length : Nat) : Int)) (by omega) (by omega) (by omega)]
  omega
 rw [W]
 by_cases N : m.recs.length + m.funcs.length + m.imps.length + m.ints.length + m.texts.length ≤ 200
 case neg =>
  rw [decide_eq_true (by omega), yg]
  exact ⟨false, rfl, fun h => by cases h⟩
 rw [decide_eq_false (by omega), ye]
 obtain ⟨O, e1, l1, u1, p1⟩ := oU (B := fun s => qbw_B0 n s.1.1 s.1.2 s.2.1 s.2.2.1 s.2.2.2.1 s.2.2.2.2.1 s.2.2.2.2.2) (xs := m.recs) (mk := fun i (a : Int) => ((a, (i : Int)), aJ m)) (f := List.length) (e := fun a => (a, aJ m)) (c := 140737488351232)
  (base := ((m.recs.length + m.funcs.length + m.imps.length + m.ints.length + m.texts.length : Nat) : Int)) (by omega) hl.recs (by omega) (fun i a x hx hm A z => by
   have J := aO hx
   show qbw_B0 n a (i : Int) m.recs m.funcs m.imps m.ints m.texts = _
   unfold qbw_B0
   rw [aC, decide_eq_true (by omega), yg, aE, hx, ya, aC, dK A (by omega) z, aH (by omega)]) (fun a => by
   show qbw_B0 n a (m.recs.length : Int) m.recs m.funcs m.imps m.ints m.texts = _
   unfold qbw_B0
   rw [aC, decide_eq_false (by omega), ye]) (n := n) (by omega)
 rw [show qbw_W0 n ((((m.recs.length + m.funcs.length + m.imps.length + m.ints.length + m.texts.length : Nat) : Int), 0), (m.recs, (m.funcs, (m.imps, (m.ints, m.texts))))) = _ from e1, ya]
 obtain ⟨K, Z, l2, u2, p2⟩ := oU (B := fun s => qbw_B2 n s.1.1 s.1.2 s.2.1 s.2.2.1 s.2.2.2.1 s.2.2.2.2.1 s.2.2.2.2.2) (xs := m.funcs) (mk := fun i (a : Int) => ((a, (i : Int)), aJ m)) (f := fun f => f.1.length + f.2.2.2.1.length + f.2.2.2.2.length) (e := fun a => (a, aJ m)) (c := 422212465053696)
  (base := O) (by omega) (fun f hf => by obtain ⟨h1, h2, h3⟩ := hl.funcs f hf; omega) (by omega) (fun i a x hx hm A z => by
   have J := aO hx
   show qbw_B2 n a (i : Int) m.recs m.funcs m.imps m.ints m.texts = _
   unfold qbw_B2
   rw [aC, decide_eq_true (by omega), yg, aE, hx]
   simp only [ya, aC]
   rw [dK (b := ((x.1.length : Nat) : Int)) A (by omega) (by omega), dK (b := ((x.2.2.2.1.length : Nat) : Int)) (by omega) (by omega) (by omega), dK (b := ((x.2.2.2.2.length : Nat) : Int)) (by omega) (by omega) (by omega), aH (by omega)]
   have : a + ((x.1.length : Nat) : Int) + ((x.2.2.2.1.length : Nat) : Int) + ((x.2.2.2.2.length : Nat) : Int) = a + ((x.1.length + x.2.2.2.1.length + x.2.2.2.2.length : Nat) : Int) := by omega
   rw [this]) (fun a => by
   show qbw_B2 n a (m.funcs.length : Int) m.recs m.funcs m.imps m.ints m.texts = _
   unfold qbw_B2
   rw [aC, decide_eq_false (by omega), ye]) (n := n) (by omega)
 rw [show qbw_W2 n ((O, 0), (m.recs, (m.funcs, (m.imps, (m.ints, m.texts))))) = _ from Z, ya]
 obtain ⟨M, U, l3, u3, Y⟩ := oU (B := fun s => qbw_B4 n s.1.1 s.1.2 s.2.1 s.2.2.1 s.2.2.2.1 s.2.2.2.2.1 s.2.2.2.2.2) (xs := m.imps) (mk := fun i (a : Int) => ((a, (i : Int)), aJ m)) (f := fun f => f.1.length) (e := fun a => (a, aJ m)) (c := 140737488351232)
  (base := K) (by omega) hl.imps (by omega) (fun i a x hx hm A z => by
   have J := aO hx
   show qbw_B4 n a (i : Int) m.recs m.funcs m.imps m.ints m.texts = _
   unfold qbw_B4
   rw [aC, decide_eq_true (by omega), yg, aE, hx, ya, aC, dK A (by omega) z, aH (by omega)]) (fun a => by
   show qbw_B4 n a (m.imps.length : Int) m.recs m.funcs m.imps m.ints m.texts = _
   unfold qbw_B4
   rw [aC, decide_eq_false (by omega), ye]) (n := n) (by omega)
 rw [show qbw_W4 n ((K, 0), (m.recs, (m.funcs, (m.imps, (m.ints, m.texts))))) = _ from U, ya]
 obtain ⟨a4, e4, l4, u4, V⟩ := oU (B := fun s => qbw_B6 n s.1.1 s.1.2 s.2.1 s.2.2.1 s.2.2.2.1 s.2.2.2.2.1 s.2.2.2.2.2) (xs := m.texts) (mk := fun i (a : Int) => ((a, (i : Int)), aJ m)) (f := ByteArray.size) (e := fun a => (a, aJ m)) (c := 140737488351232)
  (base := M) (by omega) hl.texts (by omega) (fun i a x hx hm A z => by
   have J := aO hx
   show qbw_B6 n a (i : Int) m.recs m.funcs m.imps m.ints m.texts = _
   unfold qbw_B6
   rw [aC, decide_eq_true (by omega), yg, aE, hx, ya, show w6 x = ((x.size : Nat) : Int) from rfl, dK A (by omega) z, aH (by omega)]) (fun a => by
   show qbw_B6 n a (m.texts.length : Int) m.recs m.funcs m.imps m.ints m.texts = _
   unfold qbw_B6
   rw [aC, decide_eq_false (by omega), ye]) (n := n) (by omega)
 rw [show qbw_W6 n ((M, 0), (m.recs, (m.funcs, (m.imps, (m.ints, m.texts))))) = _ from e4, ya]
 refine ⟨_, rfl, fun h => ?_⟩
 have H := of_decide_eq_true h
 simp only at H
 refine ⟨by omega, by omega, by omega, by omega, by omega, fun x hx => ?_, fun x hx => ?_, fun x hx => ?_, fun x hx => ?_⟩
 ·have := p1 x hx; omega
 ·have := p2 x hx; omega
 ·have := Y x hx; omega
 ·have := V x hx; omega
noncomputable def i9 (m : aW) (f : iT) (i : B6) : Bool := (qcq 0 m.recs m.funcs m.imps m.ints m.texts f.1 f.2.1 f.2.2.1 f.2.2.2.1 f.2.2.2.2 i.1 i.2.1 i.2.2).getD false
theorem mN {i : B6} (h : jC i = false) : 0 ≤ i.2.1 ∧ i.2.1 ≤ 255 ∧ 0 ≤ i.2.2 ∧ i.2.2 ≤ 255 := by
 have := of_decide_eq_false h
 omega
theorem iV {β : Type} {c : Bool} {a b : Option β} (z : ∃ x, a = some x) (h : ∃ x, b = some x) : ∃ x, (bif c then a else b) = some x := by cases c; exact h; exact z
theorem HV (n : Nat) (m : aW) (f : iT) (i : B6) (z : jC i = false) : qcq n m.recs m.funcs m.imps m.ints m.texts f.1 f.2.1 f.2.2.1 f.2.2.2.1 f.2.2.2.2 i.1 i.2.1 i.2.2 = some (i9 m f i) := by
 obtain ⟨h1, _, _, _⟩ := mN z
 have A : ∃ b, qcq n m.recs m.funcs m.imps m.ints m.texts f.1 f.2.1 f.2.2.1 f.2.2.2.1 f.2.2.2.2 i.1 i.2.1 i.2.2 = some b := by
  have H : (bif decide (i.2.1 < aA m.recs) then (aD m.recs i.2.1).bind fun x => some (decide (i.2.2 < aA x)) else some false) = some (bif decide (i.2.1 < aA m.recs) then decide (i.2.2 < aA ((aD m.recs i.2.1).getD [])) else false) := by
   cases h : decide (i.2.1 < aA m.recs) with
   | false => rfl
   | true =>
    have h := of_decide_eq_true h
    rw [aC] at h
    obtain ⟨u, hu⟩ : ∃ u : Nat, i.2.1 = (u : Int) := ⟨i.2.1.toNat, by omega⟩
    rw [hu, aE, yd (by omega)]
    rfl
  unfold qcq
  rw [H]
  exact iV ⟨_, rfl⟩ (iV ⟨_, rfl⟩ (iV ⟨_, rfl⟩ (iV ⟨_, rfl⟩ (iV ⟨_, rfl⟩ (iV ⟨_, rfl⟩ (iV ⟨_, rfl⟩ (iV ⟨_, rfl⟩ (iV ⟨_, rfl⟩ (iV ⟨_, rfl⟩ (iV ⟨_, rfl⟩ ⟨_, rfl⟩))))))))))
 obtain ⟨b, z⟩ := A
 have : i9 m f i = b := by
  unfold i9
  rw [show qcq 0 m.recs m.funcs m.imps m.ints m.texts f.1 f.2.1 f.2.2.1 f.2.2.2.1 f.2.2.2.2 i.1 i.2.1 i.2.2 = some b from z]
  rfl
 rw [z, this]
theorem qdq_eq (n : Nat) (m : aW) (f : iT) (i : B6) (h : jC i = false) : qdq n m.recs m.funcs m.imps m.ints m.texts f.1 f.2.1 f.2.2.1 f.2.2.2.1 f.2.2.2.2 i.1 i.2.1 i.2.2 = some (i9 m f i) := by
 rw [← HV n m f i h]
 rfl
def jK (t : cQ) : Bool := t.1 == 1 || t.1 == 5
theorem Cf (n : Nat) (t : cQ) : qdr n t.1 t.2 = some (jK t) := by
 unfold qdr jK
 cases t.1 == 1 <;> rfl
noncomputable def qF (m : aW) (f : iT) : Bool := f.2.2.2.2.any (fun i => !i9 m f i) || f.2.2.2.1.any (fun t => t.1 == 5)
def E5 (i : Mv) : Bool := !jK (i.2.1, i.2.2) || i.1.any fun t => !jK t
noncomputable def cA (m : aW) : Int := if cM m = false then 2 else if m.funcs.any (qF m) = true then 1 else if m.imps.any E5 = true then 1 else 0
theorem Mt (n : Nat) (m : aW) (f : iT) (z : ∀ i ∈ f.2.2.2.2, jC i = false) (hl : f.2.2.2.2.length ≤ 64) (hn : 100 ≤ n) :
  qb n f.2.2.2.2 m.recs m.funcs m.imps m.ints m.texts f.1 f.2.1 f.2.2.1 f.2.2.2.1 f.2.2.2.2 = some (f.2.2.2.2.any (fun i => !i9 m f i), (aJ m, f)) := by
 unfold qb qu
 have h := bA (B := fun s => qu_B0 n s.1.1 s.1.2.1 s.1.2.2 s.2.1.1 s.2.1.2.1 s.2.1.2.2.1 s.2.1.2.2.2.1 s.2.1.2.2.2.2 s.2.2.1 s.2.2.2.1 s.2.2.2.2.1 s.2.2.2.2.2.1 s.2.2.2.2.2.2) (xs := f.2.2.2.2) (mk := fun i => ((f.2.2.2.2, (aA f.2.2.2.2, (i : Int))), (aJ m, f)))
  (p := fun i => !i9 m f i) (found := fun i x => Sum.inl ((i : Int), (aJ m, f))) (e := Sum.inr (aJ m, f)) (fun i x hx => ?_) ?_ f.2.2.2.2.length 0 n (by omega) (by omega)
 ·rw [yl1] at h
  rcases h with ⟨h1, k, x, _, _, h2⟩ | ⟨h1, h2⟩
  ·rw [show qu_W0 n ((f.2.2.2.2, (aA f.2.2.2.2, 0)), ((m.recs, (m.funcs, (m.imps, (m.ints, m.texts)))), (f.1, (f.2.1, (f.2.2.1, (f.2.2.2.1, f.2.2.2.2)))))) = _ from h2, h1]
   show some (decide ((k : Int) ≥ 0), _) = _
   rw [decide_eq_true (by omega)]
  ·rw [show qu_W0 n ((f.2.2.2.2, (aA f.2.2.2.2, 0)), ((m.recs, (m.funcs, (m.imps, (m.ints, m.texts)))), (f.1, (f.2.1, (f.2.2.1, (f.2.2.2.1, f.2.2.2.2)))))) = _ from h2, h1]
   rfl
 ·have hi := aO hx
  show qu_B0 n f.2.2.2.2 (aA f.2.2.2.2) (i : Int) m.recs m.funcs m.imps m.ints m.texts f.1 f.2.1 f.2.2.1 f.2.2.2.1 f.2.2.2.2 = _
  unfold qu_B0 qbu
  rw [aC, decide_eq_true (by omega), yg, aE, hx, ya, qdq_eq n m f x (z x (yj hx)), ya, ya, aH (by omega)]
  cases i9 m f x <;> rfl
 ·show qu_B0 n f.2.2.2.2 (aA f.2.2.2.2) (f.2.2.2.2.length : Int) m.recs m.funcs m.imps m.ints m.texts f.1 f.2.1 f.2.2.1 f.2.2.2.1 f.2.2.2.2 = _
  unfold qu_B0
  rw [aC, decide_eq_false (by omega), ye]
theorem OQ (n : Nat) (l : List cQ) (hl : l.length ≤ 64) (hn : 100 ≤ n) : qg n l = some (l.any fun t => t.1 == 5) := by
 unfold qg qy
 have h := bA (B := fun s => qy_B0 n s.1 s.2.1 s.2.2) (xs := l) (mk := fun i => (l, (aA l, (i : Int)))) (p := fun t => t.1 == 5) (found := fun i x => Sum.inl (i : Int)) (e := Sum.inr ())
  (fun i x hx => ?_) ?_ l.length 0 n (by omega) (by omega)
 ·rw [yl1] at h
  rcases h with ⟨h1, k, x, _, _, h2⟩ | ⟨h1, h2⟩
  ·rw [show qy_W0 n (l, (aA l, 0)) = some (Sum.inl (k : Int)) from h2, h1]
   show some (decide ((k : Int) ≥ 0)) = _
   rw [decide_eq_true (by omega)]
  ·rw [show qy_W0 n (l, (aA l, 0)) = some (Sum.inr ()) from h2, h1]
   rfl
 ·have hi := aO hx
  show qy_B0 n l (aA l) (i : Int) = _
  unfold qy_B0 qco
  rw [aC, decide_eq_true (by omega), yg, aE, hx, ya, ya, aH (by omega)]
  cases x.1 == 5 <;> rfl
 ·show qy_B0 n l (aA l) (l.length : Int) = _
  unfold qy_B0
  rw [aC, decide_eq_false (by omega), ye]
theorem JJ (n : Nat) (l : List cQ) (hl : l.length ≤ 64) (hn : 100 ≤ n) : qe n l = some (l.any fun t => !jK t) := by
 unfold qe qaa
 have h := bA (B := fun s => qaa_B0 n s.1 s.2.1 s.2.2) (xs := l) (mk := fun i => (l, (aA l, (i : Int)))) (p := fun t => !jK t) (found := fun i x => Sum.inl (i : Int)) (e := Sum.inr ())
  (fun i x hx => ?_) ?_ l.length 0 n (by omega) (by omega)
 ·rw [yl1] at h
  rcases h with ⟨h1, k, x, _, _, h2⟩ | ⟨h1, h2⟩
  ·rw [show qaa_W0 n (l, (aA l, 0)) = some (Sum.inl (k : Int)) from h2, h1]
   show some (decide ((k : Int) ≥ 0)) = _
   rw [decide_eq_true (by omega)]
  ·rw [show qaa_W0 n (l, (aA l, 0)) = some (Sum.inr ()) from h2, h1]
   rfl
 ·have hi := aO hx
  show qaa_B0 n l (aA l) (i : Int) = _
  unfold qaa_B0 qbi
  rw [aC, decide_eq_true (by omega), yg, aE, hx, ya, Cf n x, ya, ya, aH (by omega)]
  cases jK x <;> rfl
 ·show qaa_B0 n l (aA l) (l.length : Int) = _
  unfold qaa_B0
  rw [aC, decide_eq_false (by omega), ye]
theorem Oo (n : Nat) (i : Mv) (hl : i.1.length ≤ 64) (hn : 100 ≤ n) : qcd n i.1 i.2.1 i.2.2 = some (E5 i) := by
 unfold qcd E5
 rw [Cf n (i.2.1, i.2.2), ya]
 cases jK (i.2.1, i.2.2) with
 | false => rfl
 | true => rw [yw, ye, JJ n i.1 hl hn]; rfl
theorem NP (n : Nat) (l : List Mv) (z : ∀ i ∈ l, i.1.length ≤ 64) (hl : l.length ≤ 64) (hn : 100 ≤ n) : qa n l = some (l.any E5) := by
 unfold qa qq
 have h := bA (B := fun s => qq_B0 n s.1 s.2.1 s.2.2) (xs := l) (mk := fun i => (l, (aA l, (i : Int)))) (p := E5) (found := fun i x => Sum.inl (i : Int)) (e := Sum.inr ())
  (fun i x hx => ?_) ?_ l.length 0 n (by omega) (by omega)
 ·rw [yl1] at h
  rcases h with ⟨h1, k, x, _, _, h2⟩ | ⟨h1, h2⟩
  ·rw [show qq_W0 n (l, (aA l, 0)) = some (Sum.inl (k : Int)) from h2, h1]
   show some (decide ((k : Int) ≥ 0)) = _
   rw [decide_eq_true (by omega)]
  ·rw [show qq_W0 n (l, (aA l, 0)) = some (Sum.inr ()) from h2, h1]
   rfl
 ·have hi := aO hx
  show qq_B0 n l (aA l) (i : Int) = _
  unfold qq_B0
  rw [aC, decide_eq_true (by omega), yg, aE, hx, ya, Oo n x (z x (yj hx)) hn, ya, aH (by omega)]
  cases E5 x <;> rfl
 ·show qq_B0 n l (aA l) (l.length : Int) = _
  unfold qq_B0
  rw [aC, decide_eq_false (by omega), ye]
theorem cZ {m : aW} (h : cM m = true) : m.funcs.length ≤ 8 ∧ m.imps.length ≤ 8 ∧ 1 ≤ m.funcs.length ∧ (∀ f ∈ m.funcs, (∀ i ∈ f.2.2.2.2, jC i = false) ∧ f.2.2.2.2.length ≤ 64 ∧ f.2.2.2.1.length ≤ 64 ∧ 1 ≤ f.2.2.2.2.length ∧ f.1.length ≤ 4) ∧ ∀ i ∈ m.imps, i.1.length ≤ 64 := by
 simp only [cM, yc, decide_eq_true_eq, yx] at h
 obtain ⟨_, _, H, h1, h2, J, K, _⟩ := h
 refine ⟨h1, J, H, fun f hf => ?_, fun i z => ?_⟩
 ·have hl := qO (h2 f hf)
  have A := h2 f hf
  simp only [oQ, yc, yy, List.any_eq_false] at A
  exact ⟨fun i z => by simpa using A.2.2.2.2.2 i z, hl.2.2.2.1, by omega, hl.2.2.1, hl.1⟩
 ·have := (C7 (K i z)).1; omega
theorem NQ (n : Nat) (m : aW) (N : Fe m) (hn : 200 ≤ n) : qcv n m.recs m.funcs m.imps m.ints m.texts = some (cA m) := by
 unfold qcv cA
 rw [Lq n m N hn, ya]
 cases hf : cM m with
 | false => rfl
 | true =>
  obtain ⟨k1, k2, k3, U, M⟩ := cZ hf
  rw [if_pos rfl]
  show ((qcv_W0 n ((m.funcs, (aA m.funcs, 0)), aJ m)).bind _) = _
  have h := dW (B := fun s => qcv_B0 n s.1.1 s.1.2.1 s.1.2.2 s.2.1 s.2.2.1 s.2.2.2.1 s.2.2.2.2.1 s.2.2.2.2.2) (xs := m.funcs) (mk := fun i (a : Unit) => ((m.funcs, (aA m.funcs, (i : Int))), aJ m)) (I := fun i a => (m.funcs.take i).any (qF m) = false)
   (Q := fun y => (m.funcs.any (qF m) = true ∧ ∃ z, y = Sum.inl (1, z)) ∨ (m.funcs.any (qF m) = false ∧ y = Sum.inr (aJ m))) (fun i a x hx hI => ?_) (fun a hI => ?_) m.funcs.length 0 n () (by omega) rfl (by omega)
  ·obtain ⟨y, h1, h2⟩ := h
   rw [show qcv_W0 n ((m.funcs, (aA m.funcs, 0)), aJ m) = some y from h1, ya]
   rcases h2 with ⟨J, z, rfl⟩ | ⟨J, rfl⟩
   ·rw [J]; rfl
   ·rw [J]
    show ((qa n m.imps).bind _) = _
    rw [NP n m.imps M (by omega) (by omega), ya]
    cases m.imps.any E5 <;> rfl
  ·have hi := aO hx
   have hm := yj hx
   obtain ⟨K, V, O, _⟩ := U x hm
   have H : qcv_B0 n m.funcs (aA m.funcs) (i : Int) m.recs m.funcs m.imps m.ints m.texts = (if qF m x = true then some (Sum.inr (Sum.inl (1, (aJ m, x)))) else some (Sum.inl ((m.funcs, (aA m.funcs, ((i + 1 : Nat) : Int))), aJ m))) := by
    unfold qcv_B0 qF
    rw [aC, decide_eq_true (by omega), yg, aE, hx, ya, Mt n m x K V (by omega), ya]
    cases x.2.2.2.2.any fun i => !i9 m x i with
    | true => rfl
    | false =>
     show ((qg n x.2.2.2.1).bind _) = _
     rw [OQ n x.2.2.2.1 O (by omega), ya, aH (by omega)]
     cases x.2.2.2.1.any fun t => t.1 == 5 <;> rfl
   by_cases A : qF m x = true
   ·rw [if_pos A] at H
    exact .inr ⟨_, H, .inl ⟨List.any_eq_true.2 ⟨x, hm, A⟩, _, rfl⟩⟩
   ·rw [if_neg A] at H
    refine .inl ⟨(), H, ?_⟩
    rw [yb3, hx, List.any_append, hI]
    simpa using A
  ·rw [yi2] at hI
   refine ⟨_, ?_, .inr ⟨hI, rfl⟩⟩
   show qcv_B0 n m.funcs (aA m.funcs) (m.funcs.length : Int) m.recs m.funcs m.imps m.ints m.texts = _
   unfold qcv_B0
   rw [aC, decide_eq_false (by omega), ye]
end Sx
end
section
namespace Sx
open Go Go.Ab
theorem Hh (n : Nat) (m : aW) (f : iT) (z : Int) (A : ∀ i ∈ f.2.2.2.2, jC i = false) (hl : f.2.2.2.2.length ≤ 64) (hn : 100 ≤ n) :
  ∃ y, qce_W2 n ((z, 0), (aJ m, f)) = some y ∧ ((f.2.2.2.2.any (fun i => !i9 m f i) = true ∧ y = Sum.inl (1, (aJ m, f))) ∨ (f.2.2.2.2.any (fun i => !i9 m f i) = false ∧ y = Sum.inr (z, (aJ m, f)))) := by
 have h := bA (B := fun s => qce_B2 n s.1.1 s.1.2 s.2.1.1 s.2.1.2.1 s.2.1.2.2.1 s.2.1.2.2.2.1 s.2.1.2.2.2.2 s.2.2.1 s.2.2.2.1 s.2.2.2.2.1 s.2.2.2.2.2.1 s.2.2.2.2.2.2) (xs := f.2.2.2.2) (mk := fun i => ((z, (i : Int)), (aJ m, f)))
  (p := fun i => !i9 m f i) (found := fun i x => Sum.inl (1, (aJ m, f))) (e := Sum.inr (z, (aJ m, f))) (fun i x hx => ?_) ?_ f.2.2.2.2.length 0 n (by omega) (by omega)
 ·rw [yl1] at h
  rcases h with ⟨h1, k, x, _, _, h2⟩ | ⟨h1, h2⟩
  ·exact ⟨_, h2, .inl ⟨h1, rfl⟩⟩
  ·exact ⟨_, h2, .inr ⟨h1, rfl⟩⟩
 ·have hi := aO hx
  show qce_B2 n z (i : Int) m.recs m.funcs m.imps m.ints m.texts f.1 f.2.1 f.2.2.1 f.2.2.2.1 f.2.2.2.2 = _
  unfold qce_B2
  rw [aC, decide_eq_true (by omega), yg, aE, hx, ya, HV n m f x (A x (yj hx)), ya, aH (by omega)]
  cases i9 m f x <;> rfl
 ·show qce_B2 n z (f.2.2.2.2.length : Int) m.recs m.funcs m.imps m.ints m.texts f.1 f.2.1 f.2.2.1 f.2.2.2.1 f.2.2.2.2 = _
  unfold qce_B2
  rw [aC, decide_eq_false (by omega), ye]
theorem D4 (n : Nat) (m : aW) (f : iT) (z : Int) (hl : f.2.2.2.1.length ≤ 64) (hn : 100 ≤ n) :
  ∃ y, qce_W4 n ((z, 0), (aJ m, f)) = some y ∧ ((f.2.2.2.1.any (fun t => t.1 == 5) = true ∧ y = Sum.inl (1, (aJ m, f))) ∨ (f.2.2.2.1.any (fun t => t.1 == 5) = false ∧ y = Sum.inr (z, (aJ m, f)))) := by
 have h := bA (B := fun s => qce_B4 n s.1.1 s.1.2 s.2.1.1 s.2.1.2.1 s.2.1.2.2.1 s.2.1.2.2.2.1 s.2.1.2.2.2.2 s.2.2.1 s.2.2.2.1 s.2.2.2.2.1 s.2.2.2.2.2.1 s.2.2.2.2.2.2) (xs := f.2.2.2.1) (mk := fun i => ((z, (i : Int)), (aJ m, f)))
  (p := fun t => t.1 == 5) (found := fun i x => Sum.inl (1, (aJ m, f))) (e := Sum.inr (z, (aJ m, f))) (fun i x hx => ?_) ?_ f.2.2.2.1.length 0 n (by omega) (by omega)
 ·rw [yl1] at h
  rcases h with ⟨h1, k, x, _, _, h2⟩ | ⟨h1, h2⟩
  ·exact ⟨_, h2, .inl ⟨h1, rfl⟩⟩
  ·exact ⟨_, h2, .inr ⟨h1, rfl⟩⟩
 ·have hi := aO hx
  show qce_B4 n z (i : Int) m.recs m.funcs m.imps m.ints m.texts f.1 f.2.1 f.2.2.1 f.2.2.2.1 f.2.2.2.2 = _
  unfold qce_B4
  rw [aC, decide_eq_true (by omega), yg, aE, hx, ya, aH (by omega)]
  cases x.1 == 5 <;> rfl
 ·show qce_B4 n z (f.2.2.2.1.length : Int) m.recs m.funcs m.imps m.ints m.texts f.1 f.2.1 f.2.2.1 f.2.2.2.1 f.2.2.2.2 = _
  unfold qce_B4
  rw [aC, decide_eq_false (by omega), ye]
theorem Hf (n : Nat) (m : aW) (k : Nat) (i : Mv) (z : m.imps[k]? = some i) (ok : Bool) (hl : i.1.length ≤ 64) (hn : 100 ≤ n) :
  qce_W8 n (((k : Int), (ok, 0)), aJ m) = some (((k : Int), ok && i.1.all jK), aJ m) := by
 have h := Ao (B := fun s => qce_B8 n s.1.1 s.1.2.1 s.1.2.2 s.2.1 s.2.2.1 s.2.2.2.1 s.2.2.2.2.1 s.2.2.2.2.2) (xs := i.1) (mk := fun j (a : Bool) => (((k : Int), (a, (j : Int))), aJ m)) (f := fun a t => a && jK t) (e := fun a => (((k : Int), a), aJ m)) (I := fun _ _ => True)
  (fun j a x hx _ => ⟨?_, trivial⟩) (fun a _ => ?_) i.1.length 0 n ok (by omega) trivial (by omega)
 ·rw [yl1] at h
  have e : ∀ (l : List cQ) (b : Bool), l.foldl (fun a t => a && jK t) b = (b && l.all jK) := by
   intro l
   induction l with
   | nil => intro b; simp
   | cons x l A => intro b; rw [List.foldl_cons, A, ye3, Bool.and_assoc]
  rw [e] at h
  exact h.1
 ·have hj := aO hx
  show qce_B8 n (k : Int) a (j : Int) m.recs m.funcs m.imps m.ints m.texts = _
  unfold qce_B8
  rw [aE, z, ya, aC, decide_eq_true (by omega), yg, ya, aE, hx, ya, aH (by omega)]
  cases a with
  | false => rfl
  | true =>
   show ((qdb n x.1 x.2).bind _) = _
   rw [show qdb n x.1 x.2 = some (jK x) from Cf n x]
   rfl
 ·show qce_B8 n (k : Int) a (i.1.length : Int) m.recs m.funcs m.imps m.ints m.texts = _
  unfold qce_B8
  rw [aE, z, ya, aC, decide_eq_false (by omega), ye]
theorem In (n : Nat) (m : aW) (ho : Fe m) (hL : pE m) (hn : 6000 ≤ n) : qce n m.recs m.funcs m.imps m.ints m.texts = some (cA m) := by
 unfold qce cA
 obtain ⟨b, e1, _⟩ := GK n m ho hL hn
 rw [e1, ya]
 cases hf : cM m with
 | false => rfl
 | true =>
  obtain ⟨k1, k2, k3, k4, Z⟩ := cZ hf
  show ((qce_W0 n (0, aJ m)).bind _) = _
  have h := dW (B := fun s => qce_B0 n s.1 s.2.1 s.2.2.1 s.2.2.2.1 s.2.2.2.2.1 s.2.2.2.2.2) (xs := m.funcs) (mk := fun i (a : Unit) => ((i : Int), aJ m)) (I := fun i a => (m.funcs.take i).any (qF m) = false)
   (Q := fun y => (m.funcs.any (qF m) = true ∧ ∃ z, y = Sum.inl (1, z)) ∨ (m.funcs.any (qF m) = false ∧ y = Sum.inr (aJ m))) (fun i a x hx hI => ?_) (fun a hI => ?_) m.funcs.length 0 n () (by omega) rfl (by omega)
  ·obtain ⟨y, h1, h2⟩ := h
   rw [show qce_W0 n (0, aJ m) = some y from h1, ya]
   rcases h2 with ⟨O, z, rfl⟩ | ⟨O, rfl⟩
   ·rw [O]; rfl
   ·rw [O]
    show ((qce_W6 n (0, aJ m)).bind _) = _
    have V := bA (B := fun s => qce_B6 n s.1 s.2.1 s.2.2.1 s.2.2.2.1 s.2.2.2.2.1 s.2.2.2.2.2) (xs := m.imps) (mk := fun i => ((i : Int), aJ m)) (p := E5) (found := fun i x => Sum.inl (1, aJ m)) (e := Sum.inr (aJ m))
     (fun i x hx => ?_) ?_ m.imps.length 0 n (by omega) (by omega)
    ·rw [yl1] at V
     rcases V with ⟨K, k, x, _, _, M⟩ | ⟨K, M⟩
     ·rw [show qce_W6 n (0, aJ m) = _ from M, K]; rfl
     ·rw [show qce_W6 n (0, aJ m) = _ from M, K]; rfl
    ·have W := aO hx
     show qce_B6 n (i : Int) m.recs m.funcs m.imps m.ints m.texts = _
     unfold qce_B6
     rw [aC, decide_eq_true (by omega), yg, aE, hx, ya, show qdb n x.2.1 x.2.2 = some (jK (x.2.1, x.2.2)) from Cf n (x.2.1, x.2.2), ya]
     show ((qce_W8 n (((i : Int), (jK (x.2.1, x.2.2), 0)), aJ m)).bind _) = _
     rw [Hf n m i x hx _ (Z x (yj hx)) (by omega), ya]
     simp only []
     rw [aH (by omega)]
     have : (!(jK (x.2.1, x.2.2) && x.1.all jK)) = E5 x := by
      unfold E5
      rw [Bool.not_and, ← sY jK, Bool.not_not]
     rw [this]
     cases E5 x <;> rfl
    ·show qce_B6 n (m.imps.length : Int) m.recs m.funcs m.imps m.ints m.texts = _
     unfold qce_B6
     rw [aC, decide_eq_false (by omega), ye]
  ·have W := aO hx
   have hm := yj hx
   obtain ⟨K, M, q3, _⟩ := k4 x hm
   obtain ⟨y, Y, J⟩ := Hh n m x (i : Int) K M (by omega)
   obtain ⟨z, hz, H⟩ := D4 n m x (i : Int) q3 (by omega)
   have A : ∀ s, qce_B0 n (i : Int) m.recs m.funcs m.imps m.ints m.texts = s → (fun s => qce_B0 n s.1 s.2.1 s.2.2.1 s.2.2.2.1 s.2.2.2.2.1 s.2.2.2.2.2) ((i : Int), aJ m) = s := fun s h => h
   unfold qce_B0 at A
   rw [aC, decide_eq_true (by omega), yg, aE, hx, ya, show qce_W2 n (((i : Int), 0), ((m.recs, (m.funcs, (m.imps, (m.ints, m.texts)))), (x.1, (x.2.1, (x.2.2.1, (x.2.2.2.1, x.2.2.2.2)))))) = _ from Y, ya] at A
   rcases J with ⟨N, rfl⟩ | ⟨N, rfl⟩
   ·refine .inr ⟨_, A _ rfl, .inl ⟨List.any_eq_true.2 ⟨x, hm, ?_⟩, _, rfl⟩⟩
    unfold qF; rw [N]; rfl
   ·simp only [] at A
    rw [show qce_W4 n (((i : Int), 0), ((m.recs, (m.funcs, (m.imps, (m.ints, m.texts)))), (x.1, (x.2.1, (x.2.2.1, (x.2.2.2.1, x.2.2.2.2)))))) = _ from hz, ya] at A
    rcases H with ⟨U, rfl⟩ | ⟨U, rfl⟩
    ·refine .inr ⟨_, A _ rfl, .inl ⟨List.any_eq_true.2 ⟨x, hm, ?_⟩, _, rfl⟩⟩
     unfold qF; rw [N, U]; rfl
    ·simp only [] at A
     rw [aH (by omega)] at A
     refine .inl ⟨(), A _ rfl, ?_⟩
     rw [yb3, hx, List.any_append, hI]
     have : qF m x = false := by unfold qF; rw [N, U]; rfl
     simpa using this
  ·rw [yi2] at hI
   refine ⟨_, ?_, .inr ⟨hI, rfl⟩⟩
   show qce_B0 n (m.funcs.length : Int) m.recs m.funcs m.imps m.ints m.texts = _
   unfold qce_B0
   rw [aC, decide_eq_false (by omega), ye]
noncomputable def lT (m : aW) : Bool := cA m == 0 && match m.funcs with
 | [] => false
 | f :: _ => decide (f.1.length = 0) && f.2.1 == 1
theorem Ae {m : aW} (h : cA m = 0) : ∃ f r, m.funcs = f :: r := by
 unfold cA at h
 cases hf : cM m with
 | false => rw [hf] at h; cases h
 | true =>
  have := (cZ hf).2.2.1
  cases hm : m.funcs with
  | nil => rw [hm] at this; simp at this
  | cons f r => exact ⟨f, r, rfl⟩
theorem Gd (m : aW) (x : Option Int) (hx : x = some (cA m)) :
  (x.bind fun r => bif r == 0 then (aD m.funcs 0).bind fun A => bif aA A.1 == 0 then (aD m.funcs 0).bind fun z => some (z.2.1 == 1) else some false else some false) = some (lT m) := by
 rw [hx, ya]
 unfold lT
 cases H : cA m == 0 with
 | false => rfl
 | true =>
  obtain ⟨f, r, hm⟩ := Ae (eq_of_beq H)
  rw [hm]
  show (bif aA f.1 == 0 then some (f.2.1 == 1) else some false) = some (true && (decide (f.1.length = 0) && f.2.1 == 1))
  rw [aC]
  by_cases h : f.1.length = 0
  ·rw [show ((f.1.length : Int) == 0) = true by rw [h]; rfl, decide_eq_true h]
   simp
  ·rw [show ((f.1.length : Int) == 0) = false by rw [beq_eq_false_iff_ne]; omega, decide_eq_false h]
   simp
theorem KZ (n : Nat) (m : aW) (h : Fe m) (hn : 200 ≤ n) : qef n m.recs m.funcs m.imps m.ints m.texts = some (lT m) := Gd m _ (NQ n m h hn)
theorem wI (n : Nat) (m : aW) (h : Fe m) (hL : pE m) (hn : 6000 ≤ n) : qdk n m.recs m.funcs m.imps m.ints m.texts = some (lT m) := Gd m _ (In n m h hL hn)
end Sx
end
section
namespace Sx
open Go Go.Ab
theorem mX {α : Type} {s : List α} (h : 1 ≤ s.length) : ∃ r x, s = r ++ [x] := by
 refine ⟨s.dropLast, s.getLast (by intro e; rw [e] at h; simp at h), ?_⟩
 rw [List.dropLast_concat_getLast]
theorem De {α : Type} {s : List α} (h : 2 ≤ s.length) : ∃ r x y, s = r ++ [x, y] := by
 obtain ⟨r, y, rfl⟩ := mX (s := s) (by omega)
 obtain ⟨q, x, rfl⟩ := mX (s := r) (by simp at h; omega)
 exact ⟨q, x, y, by simp⟩
theorem cR (r l : List (Int × Int)) (k j : Nat) (hl : r.length + l.length ≤ 1000000) (hj : k = l.length - j) (h1 : 1 ≤ k) (hk : k ≤ l.length) : aD (r ++ l) (a8 .i64 (aA (r ++ l)) (k : Int)) = l[l.length - k]? := by
 have h : a8 .i64 (aA (r ++ l)) (k : Int) = ((r.length + (l.length - k) : Nat) : Int) := by
  rw [aC, yi, bW (by omega) (by omega)]; omega
 rw [h, aE, yt (by omega)]
 congr 1
 omega
theorem Na (n : Nat) (m : aW) (f : iT) (x y : Int) (s : List cQ) (H : s.length ≤ 1000) :
  qer n m.recs m.funcs m.imps m.ints m.texts f.1 f.2.1 f.2.2.1 f.2.2.2.1 f.2.2.2.2 6 x y s = (qcs n m.recs m.funcs m.imps m.ints m.texts f.1 f.2.1 f.2.2.1 f.2.2.2.1 f.2.2.2.2 6 x y s).map fun r => ((r.1, r.2.1), r.2.2) := by
 simp only [qer, qeg, qcs, qdg, Int.reduceBEq, ye, yg, ya]
 by_cases h : 1 ≤ s.length
 ·obtain ⟨r, t, rfl⟩ := mX h
  rw [yi, yy1] at H
  have A := cR r [t] 1 0 (by simp; omega) rfl (by omega) (by simp)
  have A : aD (r ++ [t]) (a8 .i64 (aA (r ++ [t])) 1) = some t := A
  have z : a8 .i64 (aA (r ++ [t])) 1 = ((r.length : Nat) : Int) := by
   rw [aC, yi, bW (by simp <;> omega) (by simp <;> omega)]; simp
  rw [A, z, aC, yi, yy1, decide_eq_true (by omega), decide_eq_false (by omega), decide_eq_true (by omega), decide_eq_true (by omega)]
  simp only [yg, ye, ya, yd2, yo, yb1]
  rw [ya3 (by simp), yo3]
 ·rw [aC, decide_eq_false (by omega), decide_eq_true (by omega)]
  rfl
theorem LV (n : Nat) (m : aW) (f : iT) (x y : Int) (s : List cQ) (J : s.length ≤ 1000) :
  qer n m.recs m.funcs m.imps m.ints m.texts f.1 f.2.1 f.2.2.1 f.2.2.2.1 f.2.2.2.2 7 x y s = (qcs n m.recs m.funcs m.imps m.ints m.texts f.1 f.2.1 f.2.2.1 f.2.2.2.1 f.2.2.2.2 7 x y s).map fun r => ((r.1, r.2.1), r.2.2) := by
 simp only [qer, qeg, qcs, qdg, Int.reduceBEq, ye, yg, ya]
 by_cases h : 2 ≤ s.length
 ·obtain ⟨r, t, u, rfl⟩ := De h
  rw [yi] at J
  simp only [ye1, yd3] at J
  have H : aD (r ++ [t, u]) (a8 .i64 (aA (r ++ [t, u])) 1) = some u := cR r [t, u] 1 1 (by simp; omega) rfl (by omega) (by simp)
  have A : aD (r ++ [t, u]) (a8 .i64 (aA (r ++ [t, u])) 2) = some t := cR r [t, u] 2 0 (by simp; omega) rfl (by omega) (by simp)
  have z : a8 .i64 (aA (r ++ [t, u])) 2 = ((r.length : Nat) : Int) := by
   rw [aC, yi, bW (by simp <;> omega) (by simp <;> omega)]; simp
  rw [H, A, z, aC, yi]
  simp only [ye1, yd3]
  rw [decide_eq_true (by omega), decide_eq_false (by omega), decide_eq_true (by omega), decide_eq_true (by omega)]
  simp only [yg, ye, ya, yd2, yo, yb1]
  rw [ya3 (by simp), yo3]
 ·rw [aC, decide_eq_false (by omega), decide_eq_true (by omega)]
  rfl
theorem Kj (n : Nat) (m : aW) (f : iT) (x y : Int) (s : List cQ) (K : s.length ≤ 1000) :
  qer n m.recs m.funcs m.imps m.ints m.texts f.1 f.2.1 f.2.2.1 f.2.2.2.1 f.2.2.2.2 41 x y s = (qcs n m.recs m.funcs m.imps m.ints m.texts f.1 f.2.1 f.2.2.1 f.2.2.2.1 f.2.2.2.2 41 x y s).map fun r => ((r.1, r.2.1), r.2.2) := by
 simp only [qer, qeg, qcs, qdg, Int.reduceBEq, ye, yg, ya]
 by_cases h : 1 ≤ s.length
 ·obtain ⟨r, t, rfl⟩ := mX h
  rw [yi, yy1] at K
  have J : aD (r ++ [t]) (a8 .i64 (aA (r ++ [t])) 1) = some t := cR r [t] 1 0 (by simp; omega) rfl (by omega) (by simp)
  have z : a8 .i64 (aA (r ++ [t])) 1 = ((r.length : Nat) : Int) := by
   rw [aC, yi, bW (by simp <;> omega) (by simp <;> omega)]; simp
  rw [J, z, aC, yi, yy1, decide_eq_true (by omega), decide_eq_false (by omega), decide_eq_true (by omega), decide_eq_true (by omega)]
  simp only [yg, ye, ya, yd2, yo, yb1]
  rw [ya3 (by simp), yo3]
  obtain ⟨H, t2⟩ := t
  by_cases A : H = 5
  ·subst A; rfl
  ·rw [show (H == 5) = false from beq_eq_false_iff_ne.2 A, show (H != 5) = true from bne_iff_ne.2 A]; rfl
 ·rw [aC, decide_eq_false (by omega), decide_eq_true (by omega)]
  rfl
theorem O5 (n : Nat) (m : aW) (f : iT) (i : B6) (s : List cQ) (h : jC i = false) (hl : f.1.length + f.2.2.2.1.length ≤ 1000) (z : s.length ≤ 1000) :
  qer n m.recs m.funcs m.imps m.ints m.texts f.1 f.2.1 f.2.2.1 f.2.2.2.1 f.2.2.2.2 i.1 i.2.1 i.2.2 s = (qcs n m.recs m.funcs m.imps m.ints m.texts f.1 f.2.1 f.2.2.1 f.2.2.2.1 f.2.2.2.2 i.1 i.2.1 i.2.2 s).map fun r => ((r.1, r.2.1), r.2.2) := by
 unfold jC at h
 have h := of_decide_eq_false h
 have H := qR (op := i.1) (by omega)
 obtain ⟨op, x, y⟩ := i
 have A : op = 0 ∨ op = 1 ∨ op = 2 ∨ op = 3 ∨ op = 4 ∨ op = 5 ∨ op = 6 ∨ op = 7 ∨ op = 8 ∨ op = 9 ∨ op = 10 ∨ op = 11 ∨ op = 12 ∨ op = 13 ∨ op = 14 ∨ op = 15 ∨ op = 16 ∨ op = 17 ∨ op = 18 ∨ op = 19 ∨ op = 20 ∨ op = 21 ∨ op = 22 ∨ op = 23 ∨ op = 24 ∨ op = 25 ∨ op = 26 ∨ op = 27 ∨ op = 28 ∨ op = 29 ∨ op = 30 ∨ op = 31 ∨ op = 32 ∨ op = 33 ∨ op = 34 ∨ op = 35 ∨ op = 36 ∨ op = 37 ∨ op = 38 ∨ op = 39 ∨ op = 40 ∨ op = 41 := by simp only at H; omega
 rcases A with rfl | rfl | rfl | rfl | rfl | rfl | rfl | rfl | rfl | rfl | rfl | rfl | rfl | rfl | rfl | rfl | rfl | rfl | rfl | rfl | rfl | rfl | rfl | rfl | rfl | rfl | rfl | rfl | rfl | rfl | rfl | rfl | rfl | rfl | rfl | rfl | rfl | rfl | rfl | rfl | rfl | rfl
 ·rfl
 ·rfl
 ·rfl
 ·simp only [qer, qdc, qdi, qcs, qdg, Int.reduceBEq, ye, yg, ya, ge_iff_le, Int.reduceLE, decide_false, qcx_eq n f.1 f.2.1 f.2.2.1 f.2.2.2.1 f.2.2.2.2 x (by omega), iO n f.1 f.2.1 f.2.2.1 f.2.2.2.1 f.2.2.2.2 x (by omega), yo, yf2]
 ·simp only [qer, qdc, qdi, qcs, qdg, Int.reduceBEq, ye, yg, ya, ge_iff_le, Int.reduceLE, decide_false, qcx_eq n f.1 f.2.1 f.2.2.1 f.2.2.2.1 f.2.2.2.2 x (by omega), iO n f.1 f.2.1 f.2.2.1 f.2.2.2.1 f.2.2.2.2 x (by omega), yo, yf2]
 ·rfl
 ·exact Na n m f x y s z
 ·exact LV n m f x y s z
 ·rfl
 ·rfl
 ·rfl
 ·rfl
 ·rfl
 ·rfl
 ·rfl
 ·rfl
 ·rfl
 ·rfl
 ·rfl
 ·rfl
 ·rfl
 ·rfl
 ·rfl
 ·rfl
 ·rfl
 ·simp only [qer, qdc, qdi, qcs, qdg, Int.reduceBEq, ye, yg, ya, ge_iff_le, Int.reduceLE, decide_false, decide_true]
  cases aD m.funcs x <;> rfl
 ·rfl
 ·simp only [qer, qdc, qdi, qcs, qdg, Int.reduceBEq, ye, yg, ya, ge_iff_le, Int.reduceLE, decide_false, decide_true]
  cases aD m.imps x <;> rfl
 ·simp only [qer, qdc, qdi, qcs, qdg, Int.reduceBEq, ye, yg, ya, ge_iff_le, Int.reduceLE, decide_false, decide_true]
  cases aD m.recs x <;> rfl
 ·simp only [qer, qdc, qdi, qcs, qdg, Int.reduceBEq, ye, yg, ya, ge_iff_le, Int.reduceLE, decide_false, decide_true]
  cases aD m.recs x with
  | none => rfl
  | some l => simp only [ya]; cases aD l y <;> rfl
 ·simp only [qer, qdc, qdi, qcs, qdg, Int.reduceBEq, ye, yg, ya, ge_iff_le, Int.reduceLE, decide_false, decide_true]
  cases aD m.recs x with
  | none => rfl
  | some l => simp only [ya]; cases aD l y <;> rfl
 ·rfl
 ·rfl
 ·rfl
 ·rfl
 ·rfl
 ·rfl
 ·rfl
 ·rfl
 ·rfl
 ·rfl
 ·exact Kj n m f x y s z
end Sx
end
section
namespace Sx
open Go Go.Ab
theorem OE (n : Nat) (s : List cQ) : qdz n s = some s := by
 unfold qdz
 rw [aC, decide_eq_true (by omega), decide_eq_true (by omega), decide_eq_true (by omega), yb1, yi2]
 rfl
theorem ON (n k : Nat) (hk : k ≤ 1000) : qea n (k : Int) = if k = 0 then some (Sum.inr ()) else some (Sum.inl ((0, 0), List.replicate k (0, 0))) := by
 unfold qea
 rw [decide_eq_false (by omega), ye, bW (by omega) (by omega)]
 by_cases h : k = 0
 ·subst h; rfl
 ·have e : (k : Int) - 0 = (k : Int) := by omega
  rw [if_neg h, e, decide_eq_true (by omega), yg, yb1, decide_eq_true (by omega), show Nat.ble k 4294967296 = true from by rw [Nat.ble_eq]; omega]
  simp only [yd2, yg]
  rw [decide_eq_true (by omega)]; rfl
theorem Id (n : Nat) (a b : List cQ) (ha : a.length ≤ 300) (hb : b.length ≤ 300) (hn : 10 ≤ n) : qby_W0 n ([a, b], (0, ([a, b], (aA [a, b], 0)))) = some ([a, b], ((a.length + b.length : Nat) : Int)) := by
 obtain ⟨m, rfl⟩ : ∃ m, n = m + 3 := ⟨n - 3, by omega⟩
 have h : qby_B0 (m + 3) [a, b] 0 [a, b] 2 0 = some (Sum.inl ([a, b], ((a.length : Int), ([a, b], ((2 : Int), (1 : Int)))))) := by
  unfold qby_B0
  rw [show (decide ((0 : Int) < 2)) = true from rfl, yg, show aD [a, b] 0 = some a from rfl, ya, aC, cN (by omega) (by omega), decide_eq_false (by omega), ye, show aI .i64 0 1 = 1 from rfl]
  simp
 have h1 : qby_B0 (m + 3) [a, b] (a.length : Int) [a, b] 2 1 = some (Sum.inl ([a, b], (((a.length + b.length : Nat) : Int), ([a, b], ((2 : Int), (2 : Int)))))) := by
  unfold qby_B0
  rw [show (decide ((1 : Int) < 2)) = true from rfl, yg, show aD [a, b] 1 = some b from rfl, ya, aC, cN (by omega) (by omega), decide_eq_false (by omega), ye, show aI .i64 1 1 = 2 from rfl]
  simp
 exact (bM (B := fun s => qby_B0 (m + 3) s.1 s.2.1 s.2.2.1 s.2.2.2.1 s.2.2.2.2) (s := ([a, b], ((0 : Int), ([a, b], ((2 : Int), (0 : Int)))))) h).trans ((bM (B := fun s => qby_B0 (m + 3) s.1 s.2.1 s.2.2.1 s.2.2.2.1 s.2.2.2.2) (s := ([a, b], ((a.length : Int), ([a, b], ((2 : Int), (1 : Int)))))) h1).trans (bG rfl))
theorem JX (n : Nat) (a b m0 : List cQ) (hb : b.length ≤ 300) (hm : m0.length ≤ 1000) : qby_B2x1q1 n [a, b] 2 1 m0 = some (Sum.inl (Sum.inr (Sum.inl (([a, b], ((2 : Int), (2 : Int))), m0 ++ b)))) := by
 unfold qby_B2x1q1
 rw [show (decide ((1 : Int) < 2)) = true from rfl, yg, show aD [a, b] 1 = some b from rfl, ya, aU (by rw [yi]; omega), yg]
 rfl
theorem Be (n k : Nat) (a b m0 : List cQ) (h : b.length ≤ 300) (hm : m0.length ≤ 1000) : aL (qby_M2x1 n) (k + 2) (Sum.inr (Sum.inl (([a, b], ((2 : Int), (1 : Int))), m0))) = some (Sum.inr (Sum.inl (m0 ++ b))) :=
 (bM (JX n a b m0 h hm)).trans (bG rfl)
theorem F1 (n : Nat) (a b : List cQ) (A : a.length ≤ 300) (z : b.length ≤ 300) (hn : 10 ≤ n) : qby n [a, b] = some (Sum.inr (a ++ b)) := by
 unfold qby
 rw [Id n a b A z hn, ya]
 simp only
 rw [ON n _ (by omega), show aA [a, b] = 2 from rfl]
 obtain ⟨m, rfl⟩ : ∃ m, n = m + 3 := ⟨n - 3, by omega⟩
 by_cases h : a.length + b.length = 0
 ·rw [if_pos h, ya]
  have h1 : qby_W2x1 (m + 3) (Sum.inr (Sum.inr ([a, b], ((2 : Int), (0 : Int))))) = some (Sum.inr (Sum.inl (a ++ b))) := by
   refine (bM (B := qby_M2x1 (m + 3)) (s' := Sum.inr (Sum.inl (([a, b], ((2 : Int), (1 : Int))), a))) ?_).trans (Be (m + 3) m a b a z (by omega))
   show qby_B2x1q2 (m + 3) [a, b] 2 0 = _
   unfold qby_B2x1q2
   rw [show (decide ((0 : Int) < 2)) = true from rfl, yg, show aD [a, b] 0 = some a from rfl, ya, aU (by omega), yg]
   rfl
  show ((qby_W2x1 (m + 3) (Sum.inr (Sum.inr ([a, b], ((2 : Int), (0 : Int)))))).bind _) = _
  rw [h1]; rfl
 ·rw [if_neg h, ya]
  have h1 : qby_W2x1 (m + 3) (Sum.inl (((0, 0), ([a, b], ((2 : Int), (0 : Int)))), List.replicate (a.length + b.length) (0, 0))) = some (Sum.inr (Sum.inl (a ++ b))) := by
   refine (bM (B := qby_M2x1 (m + 3)) (s' := Sum.inr (Sum.inl (([a, b], ((2 : Int), (1 : Int))), a))) ?_).trans (Be (m + 3) m a b a z (by omega))
   show qby_B2x1q0 (m + 3) (0, 0) [a, b] 2 0 (List.replicate (a.length + b.length) (0, 0)) = _
   unfold qby_B2x1q0
   rw [show (decide ((0 : Int) < 2)) = true from rfl, yg, show aD [a, b] 0 = some a from rfl, ya]
   simp only [List.take_zero, List.nil_append, Nat.beq, yg]
   rw [show Nat.ble (0 + 0) (List.length (List.replicate (a.length + b.length) ((0 : Int), (0 : Int)))) = true from (by rw [Nat.ble_eq]; omega), yg, aU (by omega), yg]
   rfl
  show ((qby_W2x1 (m + 3) (Sum.inl (((0, 0), ([a, b], ((2 : Int), (0 : Int)))), List.replicate (a.length + b.length) (0, 0)))).bind _) = _
  rw [h1]; rfl
abbrev FR := List cQ × List Int × Int
def J1 (s inn : List cQ) : Bool := (inn.zip (s.drop (s.length - inn.length))).all fun q => gF q.2 q.1
def I5 (i : B6) (pc : Int) : List Int := if i.1 = 26 then [] else if i.1 = 23 then [i.2.1] else if i.1 = 24 then [pc + 1, i.2.1] else [pc + 1]
def m7 (f : iT) (i : B6) (pc : Int) (s : List cQ) (r : List cQ × List cQ × Bool) : FR :=
 if r.2.2 = false ∨ s.length < r.1.length ∨ s.length - r.1.length + r.2.1.length > 8 ∨ J1 s r.1 = false then ([], [], 4) else
 if i.1 ≠ 26 ∧ i.1 ≠ 23 ∧ pc + 1 ≥ (f.2.2.2.2.length : Int) then ([], [], 1) else (s.take (s.length - r.1.length) ++ r.2.1, I5 i pc, 0)
theorem F0 {S X : Type} (h : List cQ) (s : List cQ) (hl : h.length ≤ s.length) {B : S → Option (S ⊕ X)} {mk : Nat → S} {found : Nat → cQ → cQ → X} {e : X}
  (H : ∀ i x y, h[i]? = some x → s[s.length - h.length + i]? = some y → B (mk i) = (if gF y x = true then some (.inl (mk (i + 1))) else some (.inr (found i x y))))
  (A : B (mk h.length) = some (.inr e)) (n : Nat) (hn : h.length < n) :
  (J1 s h = true ∧ aL B n (mk 0) = some e) ∨ (J1 s h = false ∧ ∃ i x y, aL B n (mk 0) = some (found i x y)) :=
 loop_two (p := fun x y => gF y x) (by rw [List.length_drop]; omega) (fun i x y hx z => H i x y hx (by rw [yd1] at z; exact z)) A n hn
theorem qei_eq (n : Nat) (m : aW) (O pk : Nat) (f : iT) (i : B6) (s : List cQ) (r : List cQ × List cQ × Bool) (hf : m.funcs[O]? = some f) (N : f.2.2.2.2[pk]? = some i) (Y : jC i = false) (hl : f.1.length + f.2.2.2.1.length ≤ 200)
  (hr : qcs n m.recs m.funcs m.imps m.ints m.texts f.1 f.2.1 f.2.2.1 f.2.2.2.1 f.2.2.2.2 i.1 i.2.1 i.2.2 s = some r) (hs : s.length ≤ 200) (h1 : r.1.length ≤ 200) (h2 : r.2.1.length ≤ 200) (hp : pk ≤ 200) (hc : f.2.2.2.2.length ≤ 200)
  (V : i.1 = 23 → i.2.1 < (f.2.2.2.2.length : Int)) (hn : 1000 ≤ n) : qei n m.recs m.funcs m.imps m.ints m.texts (O : Int) (pk : Int) s = some (m7 f i (pk : Int) s r) := by
 unfold qei m7
 rw [aE, hf, ya, aE, N, ya, O5 n m f i s Y (by omega) (by omega), hr, yo, ya]
 obtain ⟨h, out, ok⟩ := r
 simp only at h1 h2 ⊢
 cases ok with
 | false => rw [if_pos (.inl rfl)]; rfl
 | true =>
  rw [aC, aC, aC]
  simp only [yw, ye, Bool.true_eq_false, false_or]
  by_cases h3 : s.length < h.length
  ·rw [if_pos (.inl h3), bW (by omega) (by omega), decide_eq_true (by omega)]; rfl
  ·have M : a8 .i64 (s.length : Int) (h.length : Int) = ((s.length - h.length : Nat) : Int) := by rw [bW (by omega) (by omega)]; omega
   rw [M, decide_eq_false (by omega), ye, cN (by omega) (by omega)]
   by_cases Z : s.length - h.length + out.length > 8
   ·rw [if_pos (.inr (.inl Z)), decide_eq_true (by omega)]; rfl
   ·rw [decide_eq_false (by omega), ye]
    have hL := F0 h s (by omega) (B := fun q => qei_B0 n q.1.1 q.1.2.1 q.1.2.2.1 q.1.2.2.2.1 q.1.2.2.2.2.1 q.1.2.2.2.2.2 q.2.1.1 q.2.1.2.1 q.2.1.2.2.1 q.2.1.2.2.2.1 q.2.1.2.2.2.2 q.2.2.1 q.2.2.2)
     (mk := fun (j : Nat) => (((pk : Int), (s, (((s.length - h.length : Nat) : Int), (h, ((h.length : Int), (j : Int)))))), ((f.1, (f.2.1, (f.2.2.1, (f.2.2.2.1, f.2.2.2.2)))), (h, out))))
     (found := fun j x y => Sum.inl ((([] : List cQ), (([] : List Int), (4 : Int))), ((f.1, (f.2.1, (f.2.2.1, (f.2.2.2.1, f.2.2.2.2)))), ((h, out), (x.1, x.2)))))
     (e := Sum.inr (((pk : Int), (s, ((s.length - h.length : Nat) : Int))), ((f.1, (f.2.1, (f.2.2.1, (f.2.2.2.1, f.2.2.2.2)))), (h, out))))
     (fun j x y hx W => by
      have hjl := cO hx
      show qei_B0 n (pk : Int) s ((s.length - h.length : Nat) : Int) h (h.length : Int) (j : Int) f.1 f.2.1 f.2.2.1 f.2.2.2.1 f.2.2.2.2 h out = _
      unfold qei_B0
      have U : aI .i64 ((s.length - h.length : Nat) : Int) (j : Int) = ((s.length - h.length + j : Nat) : Int) := by rw [cN (by omega) (by omega)]; omega
      rw [decide_eq_true (by omega), yg, aE, hx, ya, U, aE, W, ya, qem_eq n y x, ya, aH (by omega)]
      cases gF y x <;> rfl)
     (by
      show qei_B0 n (pk : Int) s ((s.length - h.length : Nat) : Int) h (h.length : Int) (h.length : Int) f.1 f.2.1 f.2.2.1 f.2.2.2.1 f.2.2.2.2 h out = _
      unfold qei_B0
      rw [decide_eq_false (by omega), ye]) n (by omega)
    rcases hL with ⟨ht, hW⟩ | ⟨ht, j, x, y, hW⟩
    ·rw [show qei_W0 n (((pk : Int), (s, (((s.length - h.length : Nat) : Int), (h, ((h.length : Int), 0))))), ((f.1, (f.2.1, (f.2.2.1, (f.2.2.2.1, f.2.2.2.2)))), (h, out))) = _ from hW, ya]
     simp only
     rw [if_neg (by rw [ht]; simp; omega), aE, N, ya]
     have J : (decide ((0 : Int) ≤ ((s.length - h.length : Nat) : Int)) && decide (((s.length - h.length : Nat) : Int) ≤ ((s.length : Nat) : Int))) = true := by
      rw [decide_eq_true (by omega), decide_eq_true (by omega)]; rfl
     rw [J, yb1, F1 n _ out (by rw [yl2]; omega) (by omega) (by omega)]
     simp only [ya, yg]
     rw [OE n]
     simp only [ya]
     unfold qdu I5
     by_cases A : i.1 = 26
     ·rw [A]; rfl
     ·rw [show (i.1 == 26) = false from beq_eq_false_iff_ne.2 A, ye, if_neg A]
      by_cases z : i.1 = 23
      ·have hj' := V z
       rw [show (i.1 == 23) = true from beq_iff_eq.2 z, yg, if_pos z, ya]
       rw [show (decide (aA [i.2.1] > 0)) = true from rfl, yg, show aD [i.2.1] 0 = some i.2.1 from rfl, ya, aC, decide_eq_false (by omega), ye, if_neg (by omega)]
      ·rw [show (i.1 == 23) = false from beq_eq_false_iff_ne.2 z, ye, if_neg z, cN (by omega) (by omega)]
       by_cases H : i.1 = 24
       ·rw [show (i.1 == 24) = true from beq_iff_eq.2 H, yg, if_pos H, ya]
        rw [show (decide (aA [(pk : Int) + 1, i.2.1] > 0)) = true from rfl, yg, show aD [(pk : Int) + 1, i.2.1] 0 = some ((pk : Int) + 1) from rfl, ya, aC]
        by_cases K : (pk : Int) + 1 ≥ (f.2.2.2.2.length : Int)
        ·rw [decide_eq_true K, yg, if_pos ⟨A, z, K⟩]
        ·rw [decide_eq_false K, ye, if_neg (by omega)]
       ·rw [show (i.1 == 24) = false from beq_eq_false_iff_ne.2 H, ye, if_neg H, ya]
        rw [show (decide (aA [(pk : Int) + 1] > 0)) = true from rfl, yg, show aD [(pk : Int) + 1] 0 = some ((pk : Int) + 1) from rfl, ya, aC]
        by_cases K : (pk : Int) + 1 ≥ (f.2.2.2.2.length : Int)
        ·rw [decide_eq_true K, yg, if_pos ⟨A, z, K⟩]
        ·rw [decide_eq_false K, ye, if_neg (by omega)]
    ·rw [show qei_W0 n (((pk : Int), (s, (((s.length - h.length : Nat) : Int), (h, ((h.length : Int), 0))))), ((f.1, (f.2.1, (f.2.2.1, (f.2.2.2.1, f.2.2.2.2)))), (h, out))) = _ from hW, ya, if_pos (.inr (.inr ht))]
theorem Jx (n : Nat) (m : aW) (N pk : Nat) (f : iT) (i : B6) (s : List cQ) (r : List cQ × List cQ × Bool) (hf : m.funcs[N]? = some f) (U : f.2.2.2.2[pk]? = some i)
  (Z : qcs n m.recs m.funcs m.imps m.ints m.texts f.1 f.2.1 f.2.2.1 f.2.2.2.1 f.2.2.2.2 i.1 i.2.1 i.2.2 s = some r) (hs : s.length ≤ 200) (h1 : r.1.length ≤ 200) (h2 : r.2.1.length ≤ 200) (hp : pk ≤ 200) (hc : f.2.2.2.2.length ≤ 200)
  (hn : 1000 ≤ n) : qct n m.recs m.funcs m.imps m.ints m.texts (N : Int) (pk : Int) s = some (m7 f i (pk : Int) s r) := by
 unfold qct m7
 rw [aE, hf, ya, aE, U, ya, Z, ya]
 obtain ⟨h, out, ok⟩ := r
 simp only at h1 h2 ⊢
 cases ok with
 | false => rw [if_pos (.inl rfl)]; rfl
 | true =>
  rw [aC, aC, aC]
  simp only [yw, ye, Bool.true_eq_false, false_or]
  by_cases h3 : s.length < h.length
  ·rw [if_pos (.inl h3), bW (by omega) (by omega), decide_eq_true (by omega)]; rfl
  ·have K : a8 .i64 (s.length : Int) (h.length : Int) = ((s.length - h.length : Nat) : Int) := by rw [bW (by omega) (by omega)]; omega
   rw [K, decide_eq_false (by omega), ye, cN (by omega) (by omega)]
   by_cases W : s.length - h.length + out.length > 8
   ·rw [if_pos (.inr (.inl W)), decide_eq_true (by omega)]; rfl
   ·rw [decide_eq_false (by omega), ye]
    have hL := F0 h s (by omega) (B := fun q => qct_B0 n q.1.1 q.1.2.1 q.1.2.2.1 q.1.2.2.2.1 q.1.2.2.2.2.1 q.1.2.2.2.2.2 q.2.1.1 q.2.1.2.1 q.2.1.2.2.1 q.2.1.2.2.2.1 q.2.1.2.2.2.2 q.2.2.1 q.2.2.2.1 q.2.2.2.2)
     (mk := fun (j : Nat) => (((pk : Int), (s, (h, (out, (((s.length - h.length : Nat) : Int), (j : Int)))))), ((f.1, (f.2.1, (f.2.2.1, (f.2.2.2.1, f.2.2.2.2)))), (i.1, (i.2.1, i.2.2)))))
     (found := fun j x y => Sum.inl ((([] : List cQ), (([] : List Int), (4 : Int))), ((f.1, (f.2.1, (f.2.2.1, (f.2.2.2.1, f.2.2.2.2)))), (i.1, (i.2.1, i.2.2)))))
     (e := Sum.inr (((pk : Int), (s, (out, ((s.length - h.length : Nat) : Int)))), ((f.1, (f.2.1, (f.2.2.1, (f.2.2.2.1, f.2.2.2.2)))), (i.1, (i.2.1, i.2.2)))))
     (fun j x y hx V => by
      have Y := cO hx
      show qct_B0 n (pk : Int) s h out ((s.length - h.length : Nat) : Int) (j : Int) f.1 f.2.1 f.2.2.1 f.2.2.2.1 f.2.2.2.2 i.1 i.2.1 i.2.2 = _
      unfold qct_B0
      have O : aI .i64 ((s.length - h.length : Nat) : Int) (j : Int) = ((s.length - h.length + j : Nat) : Int) := by rw [cN (by omega) (by omega)]; omega
      rw [aC, decide_eq_true (by omega), yg, O, aE, V, ya, aE, hx, ya, sN n y x, ya, aH (by omega)]
      cases gF y x <;> rfl)
     (by
      show qct_B0 n (pk : Int) s h out ((s.length - h.length : Nat) : Int) (h.length : Int) f.1 f.2.1 f.2.2.1 f.2.2.2.1 f.2.2.2.2 i.1 i.2.1 i.2.2 = _
      unfold qct_B0
      rw [aC, decide_eq_false (by omega), ye]) n (by omega)
    rcases hL with ⟨ht, hW⟩ | ⟨ht, j, x, y, hW⟩
    ·rw [show qct_W0 n (((pk : Int), (s, (h, (out, (((s.length - h.length : Nat) : Int), 0))))), ((f.1, (f.2.1, (f.2.2.1, (f.2.2.2.1, f.2.2.2.2)))), (i.1, (i.2.1, i.2.2)))) = _ from hW, ya]
     simp only
     rw [if_neg (by rw [ht]; simp; omega)]
     have J : (decide ((0 : Int) ≤ ((s.length - h.length : Nat) : Int)) && decide (((s.length - h.length : Nat) : Int) ≤ ((s.length : Nat) : Int))) = true := by
      rw [decide_eq_true (by omega), decide_eq_true (by omega)]; rfl
     rw [J, yb1, aU (by rw [yl2]; omega), aU (by rw [yi, yl2]; omega)]
     simp only [yg]
     unfold I5
     by_cases H : i.1 = 26
     ·rw [H]; rfl
     ·rw [show (i.1 == 26) = false from beq_eq_false_iff_ne.2 H, ye, if_neg H]
      by_cases z : i.1 = 23
      ·rw [show (i.1 == 23) = true from beq_iff_eq.2 z, yg, if_pos z, if_neg (by omega)]
      ·rw [show (i.1 == 23) = false from beq_eq_false_iff_ne.2 z, ye, if_neg z, cN (by omega) (by omega), aC]
       by_cases M : (pk : Int) + 1 ≥ (f.2.2.2.2.length : Int)
       ·rw [decide_eq_true M, yg, if_pos ⟨H, z, M⟩]
       ·rw [decide_eq_false M, ye, if_neg (by omega)]
        by_cases A : i.1 = 24
        ·rw [show (i.1 == 24) = true from beq_iff_eq.2 A, yg, if_pos A]
        ·rw [show (i.1 == 24) = false from beq_eq_false_iff_ne.2 A, ye, if_neg A]
    ·rw [show qct_W0 n (((pk : Int), (s, (h, (out, (((s.length - h.length : Nat) : Int), 0))))), ((f.1, (f.2.1, (f.2.2.1, (f.2.2.2.1, f.2.2.2.2)))), (i.1, (i.2.1, i.2.2)))) = _ from hW, ya, if_pos (.inr (.inr ht))]
end Sx
end
section
set_option maxRecDepth 100000
namespace Sx
open Go Go.Ab
end Sx
end
section
namespace Sx
open Go Go.Ab
theorem Ls {m : aW} (h : cM m = true) : m.recs.length ≤ 8 ∧ ∀ l ∈ m.recs, l.length ≤ 6 := by
 simp only [cM, yc, decide_eq_true_eq, yx] at h
 exact ⟨h.1, fun l hl => by have := iH (h.2.1 l hl); omega⟩
theorem cJ {m : aW} (h : cA m = 0) : cM m = true ∧ ∀ f ∈ m.funcs, qF m f = false := by
 unfold cA at h
 cases hf : cM m with
 | false => rw [if_pos hf] at h; cases h
 | true =>
  rw [if_neg (by rw [hf]; simp)] at h
  refine ⟨rfl, fun f hm => ?_⟩
  cases z : m.funcs.any (qF m) with
  | true => rw [if_pos z] at h; cases h
  | false => simpa using List.any_eq_false.1 z f hm
theorem kC {m : aW} (h : cA m = 0) {f : iT} (hf : f ∈ m.funcs) {i : B6} (z : i ∈ f.2.2.2.2) : i9 m f i = true := by
 have := (cJ h).2 f hf
 unfold qF at this
 rw [Bool.or_eq_false_iff] at this
 simpa using List.any_eq_false.1 this.1 i z
theorem fA {α : Type} {l : List α} {x : Int} (h0 : 0 ≤ x) (h : x < (l.length : Int)) : ∃ a, aD l x = some a ∧ a ∈ l := by
 obtain ⟨k, rfl⟩ : ∃ k : Nat, x = (k : Int) := ⟨x.toNat, by omega⟩
 exact ⟨l[k]'(by omega), by rw [aE, yd], yu2 _⟩
theorem LO (n : Nat) (m : aW) (f : iT) (i : B6) (s : List cQ) (Z : cA m = 0) (hf : f ∈ m.funcs) (Y : i ∈ f.2.2.2.2) (J : s.length ≤ 200) :
  ∃ r, qcs n m.recs m.funcs m.imps m.ints m.texts f.1 f.2.1 f.2.2.1 f.2.2.2.1 f.2.2.2.2 i.1 i.2.1 i.2.2 s = some r ∧ r.1.length ≤ 200 ∧ r.2.1.length ≤ 200 := by
 obtain ⟨hF, hB⟩ := cJ Z
 obtain ⟨k1, k2, k3, W, k5⟩ := cZ hF
 obtain ⟨q1, q2⟩ := Ls hF
 have hN := kC Z hf Y
 have K := (W f hf).1 i Y
 have hfl := W f hf
 have H := mN K
 unfold jC at K
 have K := of_decide_eq_false K
 have ha := qR (op := i.1) (by omega)
 obtain ⟨op, x, y⟩ := i
 simp only at H
 have hk : op = 0 ∨ op = 1 ∨ op = 2 ∨ op = 3 ∨ op = 4 ∨ op = 5 ∨ op = 6 ∨ op = 7 ∨ op = 8 ∨ op = 9 ∨ op = 10 ∨ op = 11 ∨ op = 12 ∨ op = 13 ∨ op = 14 ∨ op = 15 ∨ op = 16 ∨ op = 17 ∨ op = 18 ∨ op = 19 ∨ op = 20 ∨ op = 21 ∨ op = 22 ∨ op = 23 ∨ op = 24 ∨ op = 25 ∨ op = 26 ∨ op = 27 ∨ op = 28 ∨ op = 29 ∨ op = 30 ∨ op = 31 ∨ op = 32 ∨ op = 33 ∨ op = 34 ∨ op = 35 ∨ op = 36 ∨ op = 37 ∨ op = 38 ∨ op = 39 ∨ op = 40 ∨ op = 41 := by simp only at ha; omega
 rcases hk with rfl | rfl | rfl | rfl | rfl | rfl | rfl | rfl | rfl | rfl | rfl | rfl | rfl | rfl | rfl | rfl | rfl | rfl | rfl | rfl | rfl | rfl | rfl | rfl | rfl | rfl | rfl | rfl | rfl | rfl | rfl | rfl | rfl | rfl | rfl | rfl | rfl | rfl | rfl | rfl | rfl | rfl
 ·exact ⟨_, rfl, by simp, by simp⟩
 ·exact ⟨_, rfl, by simp, by simp⟩
 ·exact ⟨_, rfl, by simp, by simp⟩
 ·simp only [qcs, Int.reduceBEq, ye, yg, iO n f.1 f.2.1 f.2.2.1 f.2.2.2.1 f.2.2.2.2 x (by omega), ya]
  exact ⟨_, rfl, by simp, by simp⟩
 ·simp only [qcs, Int.reduceBEq, ye, yg, iO n f.1 f.2.1 f.2.2.1 f.2.2.2.1 f.2.2.2.2 x (by omega), ya]
  exact ⟨_, rfl, by simp, by simp⟩
 ·exact ⟨_, rfl, by simp, by simp⟩
 ·simp only [qcs, Int.reduceBEq, ye, yg]
  by_cases h : 1 ≤ s.length
  ·obtain ⟨r, t, rfl⟩ := mX h
   rw [yi, yy1] at J
   have M : aD (r ++ [t]) (a8 .i64 (aA (r ++ [t])) 1) = some t := cR r [t] 1 0 (by simp; omega) rfl (by omega) (by simp)
   have A : a8 .i64 (aA (r ++ [t])) 1 = ((r.length : Nat) : Int) := by
    rw [aC, yi, bW (by simp <;> omega) (by simp <;> omega)]; simp
   rw [M, A, aC, yi, yy1, decide_eq_false (by omega), decide_eq_true (by omega), decide_eq_true (by omega)]
   simp only [yg, ye, ya, yd2, yb1]
   rw [ya3 (by simp), yo3]
   exact ⟨_, rfl, by simp, by simp⟩
  ·rw [aC, decide_eq_true (by omega)]
   exact ⟨_, rfl, by simp, by simp⟩
 ·simp only [qcs, Int.reduceBEq, ye, yg]
  by_cases h : 2 ≤ s.length
  ·obtain ⟨r, t, u, rfl⟩ := De h
   rw [yi] at J
   simp only [ye1, yd3] at J
   have N : aD (r ++ [t, u]) (a8 .i64 (aA (r ++ [t, u])) 1) = some u := cR r [t, u] 1 1 (by simp; omega) rfl (by omega) (by simp)
   have O : aD (r ++ [t, u]) (a8 .i64 (aA (r ++ [t, u])) 2) = some t := cR r [t, u] 2 0 (by simp; omega) rfl (by omega) (by simp)
   have A : a8 .i64 (aA (r ++ [t, u])) 2 = ((r.length : Nat) : Int) := by
    rw [aC, yi, bW (by simp <;> omega) (by simp <;> omega)]; simp
   rw [N, O, A, aC, yi]
   simp only [ye1, yd3]
   rw [decide_eq_false (by omega), decide_eq_true (by omega), decide_eq_true (by omega)]
   simp only [yg, ye, ya, yd2, yb1]
   rw [ya3 (by simp), yo3]
   exact ⟨_, rfl, by simp, by simp⟩
  ·rw [aC, decide_eq_true (by omega)]
   exact ⟨_, rfl, by simp, by simp⟩
 ·exact ⟨_, rfl, by simp, by simp⟩
 ·exact ⟨_, rfl, by simp, by simp⟩
 ·exact ⟨_, rfl, by simp, by simp⟩
 ·exact ⟨_, rfl, by simp, by simp⟩
 ·exact ⟨_, rfl, by simp, by simp⟩
 ·exact ⟨_, rfl, by simp, by simp⟩
 ·exact ⟨_, rfl, by simp, by simp⟩
 ·exact ⟨_, rfl, by simp, by simp⟩
 ·exact ⟨_, rfl, by simp, by simp⟩
 ·exact ⟨_, rfl, by simp, by simp⟩
 ·exact ⟨_, rfl, by simp, by simp⟩
 ·exact ⟨_, rfl, by simp, by simp⟩
 ·exact ⟨_, rfl, by simp, by simp⟩
 ·exact ⟨_, rfl, by simp, by simp⟩
 ·exact ⟨_, rfl, by simp, by simp⟩
 ·exact ⟨_, rfl, by simp, by simp⟩
 ·exact ⟨_, rfl, by simp, by simp⟩
 ·have z : x < (m.funcs.length : Int) := of_decide_eq_true (show decide (x < aA m.funcs) = true from hN)
  obtain ⟨a, e, hm⟩ := fA H.1 z
  simp only [qcs, Int.reduceBEq, ye, yg, e, ya]
  exact ⟨_, rfl, by have := (W a hm).2.2.2.2; simp only; omega, by simp⟩
 ·exact ⟨_, rfl, by simp, by simp⟩
 ·have z : x < (m.imps.length : Int) := of_decide_eq_true (show decide (x < aA m.imps) = true from hN)
  obtain ⟨a, e, hm⟩ := fA H.1 z
  simp only [qcs, Int.reduceBEq, ye, yg, e, ya]
  exact ⟨_, rfl, by have := k5 a hm; simp only; omega, by simp⟩
 ·have z : x < (m.recs.length : Int) := of_decide_eq_true (show decide (x < aA m.recs) = true from hN)
  obtain ⟨a, e, hm⟩ := fA H.1 z
  simp only [qcs, Int.reduceBEq, ye, yg, e, ya]
  exact ⟨_, rfl, by have := q2 a hm; simp only; omega, by simp⟩
 ·have hN : (bif decide (x < aA m.recs) then (aD m.recs x).bind fun l => some (decide (y < aA l)) else some false).getD false = true := hN
  by_cases z : x < (m.recs.length : Int)
  ·rw [aC, decide_eq_true z, yg] at hN
   obtain ⟨a, e, hm⟩ := fA H.1 z
   rw [e] at hN
   have U : y < (a.length : Int) := of_decide_eq_true hN
   obtain ⟨b, V, _⟩ := fA H.2.2.1 U
   simp only [qcs, Int.reduceBEq, ye, yg, e, V, ya]
   exact ⟨_, rfl, by simp, by simp⟩
  ·rw [aC, decide_eq_false z] at hN; cases hN
 ·have hN : (bif decide (x < aA m.recs) then (aD m.recs x).bind fun l => some (decide (y < aA l)) else some false).getD false = true := hN
  by_cases z : x < (m.recs.length : Int)
  ·rw [aC, decide_eq_true z, yg] at hN
   obtain ⟨a, e, hm⟩ := fA H.1 z
   rw [e] at hN
   have U : y < (a.length : Int) := of_decide_eq_true hN
   obtain ⟨b, V, _⟩ := fA H.2.2.1 U
   simp only [qcs, Int.reduceBEq, ye, yg, e, V, ya]
   exact ⟨_, rfl, by simp, by simp⟩
  ·rw [aC, decide_eq_false z] at hN; cases hN
 ·exact ⟨_, rfl, by simp, by simp⟩
 ·exact ⟨_, rfl, by simp, by simp⟩
 ·exact ⟨_, rfl, by simp, by simp⟩
 ·exact ⟨_, rfl, by simp, by simp⟩
 ·exact ⟨_, rfl, by simp, by simp⟩
 ·exact ⟨_, rfl, by simp, by simp⟩
 ·exact ⟨_, rfl, by simp, by simp⟩
 ·exact ⟨_, rfl, by simp, by simp⟩
 ·exact ⟨_, rfl, by simp, by simp⟩
 ·exact ⟨_, rfl, by simp, by simp⟩
 ·simp only [qcs, Int.reduceBEq, ye, yg]
  by_cases h : 1 ≤ s.length
  ·obtain ⟨r, t, rfl⟩ := mX h
   rw [yi, yy1] at J
   have M : aD (r ++ [t]) (a8 .i64 (aA (r ++ [t])) 1) = some t := cR r [t] 1 0 (by simp; omega) rfl (by omega) (by simp)
   have A : a8 .i64 (aA (r ++ [t])) 1 = ((r.length : Nat) : Int) := by
    rw [aC, yi, bW (by simp <;> omega) (by simp <;> omega)]; simp
   rw [M, A, aC, yi, yy1, decide_eq_false (by omega), decide_eq_true (by omega), decide_eq_true (by omega)]
   simp only [yg, ye, ya, yd2, yb1]
   rw [ya3 (by simp), yo3]
   cases t.1 != 5 <;> exact ⟨_, rfl, by simp, by simp⟩
  ·rw [aC, decide_eq_true (by omega)]
   exact ⟨_, rfl, by simp, by simp⟩
theorem LM (n : Nat) (m : aW) (H pk : Nat) (f : iT) (i : B6) (s : List cQ) (U : cA m = 0) (hf : m.funcs[H]? = some f) (J : f.2.2.2.2[pk]? = some i) (M : s.length ≤ 200) (hn : 1000 ≤ n) :
  ∃ r, qcs n m.recs m.funcs m.imps m.ints m.texts f.1 f.2.1 f.2.2.1 f.2.2.2.1 f.2.2.2.2 i.1 i.2.1 i.2.2 s = some r ∧ r.1.length ≤ 200 ∧ r.2.1.length ≤ 200 ∧
   qei n m.recs m.funcs m.imps m.ints m.texts (H : Int) (pk : Int) s = some (m7 f i (pk : Int) s r) ∧ qct n m.recs m.funcs m.imps m.ints m.texts (H : Int) (pk : Int) s = some (m7 f i (pk : Int) s r) := by
 have A := yj hf
 have z := yj J
 obtain ⟨hF, hB⟩ := cJ U
 obtain ⟨k1, k2, k3, Y, k5⟩ := cZ hF
 have V := Y f A
 have W := cO J
 obtain ⟨r, O, N, K⟩ := LO n m f i s U A z M
 refine ⟨r, O, N, K, qei_eq n m H pk f i s r hf J (V.1 i z) (by omega) O M N K (by omega) (by omega) (fun h => ?_) hn, Jx n m H pk f i s r hf J O M N K (by omega) (by omega) hn⟩
 have hN := kC U A z
 obtain ⟨op, x, y⟩ := i
 simp only at h
 subst h
 exact of_decide_eq_true (show decide (x < aA f.2.2.2.2) = true from hN)
end Sx
end
section
namespace Sx
open Go Go.Ab
def NU (x y : cQ) : Bool := (x.1 == y.1) && (x.2 == y.2)
theorem Nl (x : cQ) : NU x x = true := by simp [NU]
theorem Fg (n : Nat) (a b : List cQ) (ha : a.length ≤ 5000) (hn : 6000 ≤ n) : qbs n a b = some (KF NU a b) := by
 unfold qbs KF
 rw [vF]
 by_cases hl : a.length = b.length
 ·rw [decide_eq_true hl, yw, ye, yu]
  have h := loop_two (B := fun s => qbs_B0 n s.1 s.2.1 s.2.2) (mk := fun (i : Nat) => (a, (b, (i : Int)))) (p := NU) (found := fun i x y => Sum.inl false) (e := Sum.inr ()) hl (fun i x y hx z => ?_) ?_ n (by omega)
  ·rcases h with ⟨h1, h2⟩ | ⟨h1, i, x, y, h2⟩
   ·rw [show qbs_W0 n (a, (b, 0)) = _ from h2, h1]; rfl
   ·rw [show qbs_W0 n (a, (b, 0)) = _ from h2, h1]; rfl
  ·have hi := cO hx
   show qbs_B0 n a b (i : Int) = _
   unfold qbs_B0
   rw [aC, decide_eq_true (by omega), yg, aE, hx, ya, aE, z, ya, aH (by omega)]
   show (bif !NU x y then _ else _) = _
   cases NU x y <;> rfl
  ·show qbs_B0 n a b (a.length : Int) = _
   unfold qbs_B0
   rw [aC, decide_eq_false (by omega), ye]
 ·rw [decide_eq_false hl]; rfl
theorem Lp {f : iT} {i : B6} {pc : Int} {s : List cQ} {r : List cQ × List cQ × Bool} (hs : s.length ≤ 200) (h2 : r.2.1.length ≤ 200) : (m7 f i pc s r).1.length ≤ 400 ∧ (m7 f i pc s r).2.1.length ≤ 2 := by
 unfold m7
 split
 ·simp
 ·split
  ·simp
  ·refine ⟨by simp only [yi, yl2]; omega, ?_⟩
   unfold I5
   simp only
   split
   ·simp
   ·split
    ·simp
    ·split <;> simp
end Sx
end
section
namespace Sx
open Go Go.Ab
theorem pM {X S : Type} {B : S → Option (S ⊕ X)} {mk : Nat → S} {p : Nat → Bool} {found : Nat → X} {e : X} (k : Nat)
  (H : ∀ i, i < k → B (mk i) = (if p i = true then some (.inl (mk (i + 1))) else some (.inr (found i)))) (J : B (mk k) = some (.inr e)) (n : Nat) (hn : k < n) :
  ((List.range k).all p = true ∧ aL B n (mk 0) = some e) ∨ ((List.range k).all p = false ∧ ∃ i, i < k ∧ aL B n (mk 0) = some (found i)) := by
 have h := bA (xs := List.range k) (B := B) (mk := mk) (p := fun i => !p i) (found := fun i _ => found i) (e := e) (fun i x hx => ?_) (by rw [yj2]; exact J) k 0 n (by rw [yj2]; omega) hn
 ·rw [yl1] at h
  have A : (List.range k).all p = !(List.range k).any (fun i => !p i) := by rw [yr2]
  rcases h with ⟨h1, j, x, hx, _, h2⟩ | ⟨h1, h2⟩
  ·have := cO hx
   rw [yj2] at this
   exact .inr ⟨by rw [A, h1]; rfl, j, this, h2⟩
  ·exact .inl ⟨by rw [A, h1]; rfl, h2⟩
 ·have z := cO hx
  rw [yj2] at z
  rw [List.getElem?_range z] at hx
  obtain rfl := yb hx
  rw [H i z]
  cases p i <;> rfl
abbrev dA := Bool × List cQ
noncomputable def BK (m : aW) (f : iT) (i : B6) (s : List cQ) : List cQ × List cQ × Bool := (qcs 10000 m.recs m.funcs m.imps m.ints m.texts f.1 f.2.1 f.2.2.1 f.2.2.2.1 f.2.2.2.2 i.1 i.2.1 i.2.2 s).getD ([], [], false)
noncomputable def eO (m : aW) (f : iT) (i : B6) (pc : Int) (s : List cQ) : FR := m7 f i pc s (BK m f i s)
theorem Ad (m : aW) (J pk : Nat) (f : iT) (i : B6) (s : List cQ) (V : cA m = 0) (hf : m.funcs[J]? = some f) (M : f.2.2.2.2[pk]? = some i) (W : s.length ≤ 200) :
  qei 10000 m.recs m.funcs m.imps m.ints m.texts (J : Int) (pk : Int) s = some (eO m f i (pk : Int) s) ∧ qct 10000 m.recs m.funcs m.imps m.ints m.texts (J : Int) (pk : Int) s = some (eO m f i (pk : Int) s) ∧
   qcs 10000 m.recs m.funcs m.imps m.ints m.texts f.1 f.2.1 f.2.2.1 f.2.2.2.1 f.2.2.2.2 i.1 i.2.1 i.2.2 s = some (BK m f i s) ∧
   (eO m f i (pk : Int) s).1.length ≤ 400 ∧ (eO m f i (pk : Int) s).2.1.length ≤ 2 ∧ ∀ t ∈ (eO m f i (pk : Int) s).2.1, 0 ≤ t ∧ t < (f.2.2.2.2.length : Int) := by
 obtain ⟨r, Z, l1, l2, e1, e2⟩ := LM 10000 m J pk f i s V hf M W (by omega)
 have hR : BK m f i s = r := by unfold BK; rw [Z]; rfl
 have hF : eO m f i (pk : Int) s = m7 f i (pk : Int) s r := by unfold eO; rw [hR]
 have z := Lp (f := f) (i := i) (pc := (pk : Int)) (s := s) (r := r) W l2
 rw [hF, hR]
 refine ⟨e1, e2, Z, z.1, z.2, fun t ht => ?_⟩
 have H := yj hf
 have A := yj M
 have hN := kC V H A
 have Y := mN ((cZ (cJ V).1).2.2.2.1 f H |>.1 i A)
 have hA : i.1 = 23 ∨ i.1 = 24 → i.2.1 < (f.2.2.2.2.length : Int) := by
  obtain ⟨op, x, y⟩ := i
  rintro (h | h)
  ·simp only at h; subst h
   exact of_decide_eq_true (show decide (x < aA f.2.2.2.2) = true from hN)
  ·simp only at h; subst h
   exact of_decide_eq_true (show decide (x < aA f.2.2.2.2) = true from hN)
 have hpk := cO M
 unfold m7 at ht
 split at ht
 ·cases ht
 ·split at ht
  ·cases ht
  ·rename_i h2
   unfold I5 at ht
   simp only at ht
   split at ht
   ·cases ht
   ·rename_i O
    split at ht
    ·rename_i N
     obtain rfl := ym1.1 ht
     exact ⟨Y.1, hA (.inl N)⟩
    ·rename_i U
     have hlt : (pk : Int) + 1 < (f.2.2.2.2.length : Int) := by
      by_cases h : (pk : Int) + 1 < (f.2.2.2.2.length : Int)
      ·exact h
      ·exact absurd ⟨O, U, Int.not_lt.1 h⟩ h2
     split at ht
     ·rename_i K
      rcases yq1.1 ht with rfl | ht
      ·omega
      ·obtain rfl := ym1.1 ht
       exact ⟨Y.1, hA (.inr K)⟩
     ·obtain rfl := ym1.1 ht
      omega
def dN (sh : List dA) (after : List cQ) (t : Int) : Bool := match aD sh t with | some x => x.1 && eB after x.2 | none => false
noncomputable def BF (m : aW) (f : iT) (sh : List dA) (i : B6) (pc : Int) (x : dA) : Bool :=
 !decide (x.2.length > 8) && (!x.1 || ((eO m f i pc x.2).2.2 == 0 && (eO m f i pc x.2).2.1.all (dN sh (eO m f i pc x.2).1)))
noncomputable def kY (m : aW) (f : iT) (sh : List dA) (pc : Nat) : Bool := match sh[pc]?, f.2.2.2.2[pc]? with | some x, some i => BF m f sh i (pc : Int) x | _, _ => false
noncomputable def nT (m : aW) (f : iT) (sh : List dA) : Bool := decide (sh.length = f.2.2.2.2.length) && (match sh with | x :: _ => x.1 && !decide (x.2.length > 0) | [] => false) && (List.range sh.length).all (kY m f sh)
noncomputable def Qd (m : aW) (maps : List (List dA)) (k : Nat) : Bool := match maps[k]?, m.funcs[k]? with | some sh, some f => nT m f sh | _, _ => false
theorem GN {m : aW} {h : List (List dA)} {k : Nat} {sh : List dA} {f : iT} (h1 : h[k]? = some sh) (h2 : m.funcs[k]? = some f) : Qd m h k = nT m f sh := by unfold Qd; rw [h1, h2]
noncomputable def e9 (m : aW) (maps : List (List dA)) : Bool := lT m && (decide (maps.length = m.funcs.length) && (List.range maps.length).all (Qd m maps))
theorem lH {α : Type} {l : List α} {t : Int} (z : 0 ≤ t) (h : t < (l.length : Int)) : ∃ x, aD l t = some x := by
 obtain ⟨a, A, _⟩ := fA z h
 exact ⟨a, A⟩
theorem qdd_eq (n : Nat) (sh : List dA) (h : List cQ) (t : Int) (z : h.length ≤ 5000) (ht : 0 ≤ t ∧ t < (sh.length : Int)) (hn : 6000 ≤ n) : qdd n t sh h = some (!dN sh h t, (sh, h)) := by
 unfold qdd dN
 obtain ⟨x, hx⟩ := lH ht.1 ht.2
 rw [hx, ya, ya, qbv_eq n h x.2 z hn]
 cases A : x.1 <;> simp [A]
theorem CT (n : Nat) (sh : List dA) (z : List cQ) (to : List Int) (H : z.length ≤ 5000) (ht : ∀ t ∈ to, 0 ≤ t ∧ t < (sh.length : Int)) (hl : to.length ≤ 10) (hn : 6000 ≤ n) : qag n to sh z = some (!to.all (dN sh z), (sh, z)) := by
 unfold qag qay
 have h := bA (xs := to) (B := fun s => qay_B0 n s.1.1 s.1.2.1 s.1.2.2 s.2.1 s.2.2) (mk := fun (i : Nat) => ((to, (aA to, (i : Int))), (sh, z))) (p := fun t => !dN sh z t)
  (found := fun i t => Sum.inl ((i : Int), (sh, z))) (e := Sum.inr (sh, z)) (fun i t hx => ?_) ?_ to.length 0 n (by omega) (by omega)
 ·rw [yl1] at h
  have A : to.all (dN sh z) = !to.any (fun t => !dN sh z t) := by rw [yr2]
  rcases h with ⟨h1, j, x, hx, _, h2⟩ | ⟨h1, h2⟩
  ·rw [show qay_W0 n ((to, (aA to, 0)), (sh, z)) = _ from h2, A, h1]
   show some (decide ((j : Int) ≥ 0), (sh, z)) = _
   rw [decide_eq_true (by omega)]; rfl
  ·rw [show qay_W0 n ((to, (aA to, 0)), (sh, z)) = _ from h2, A, h1]; rfl
 ·have hi := cO hx
  show qay_B0 n to (aA to) (i : Int) sh z = _
  unfold qay_B0
  rw [aC, decide_eq_true (by omega), yg, aE, hx, ya, qdd_eq n sh z t H (ht t (yj hx)) hn, ya, aH (by omega)]
  cases dN sh z t <;> rfl
 ·show qay_B0 n to (aA to) (to.length : Int) sh z = _
  unfold qay_B0
  rw [aC, decide_eq_false (by omega), ye]
theorem qee_eq (m : aW) (h pk : Nat) (f : iT) (i : B6) (sh : List dA) (x : dA) (K : cA m = 0) (hf : m.funcs[h]? = some f) (z : f.2.2.2.2[pk]? = some i) (hx : sh[pk]? = some x) (hl : sh.length = f.2.2.2.2.length) :
  qee 10000 m.recs m.funcs m.imps m.ints m.texts (h : Int) (pk : Int) sh = some (kY m f sh pk) := by
 unfold qee kY
 rw [aE, hx, z, ya]
 simp only [BF]
 rw [aC]
 by_cases A : x.2.length > 8
 ·rw [decide_eq_true (by omega : (x.2.length : Int) > 8), decide_eq_true A]; rfl
 ·rw [decide_eq_false (by omega : ¬ (x.2.length : Int) > 8), decide_eq_false A]
  obtain ⟨M, _, _, J, H, ht⟩ := Ad m h pk f i x.2 K hf z (by omega)
  rw [M]
  generalize eO m f i (pk : Int) x.2 = R at J H ht ⊢
  cases hb : x.1 with
  | false => rfl
  | true =>
   simp only [yw, ye, ya, yw2, yu, yl3]
   rw [CT 10000 sh R.1 R.2.1 (by omega) (by rw [hl]; exact ht) (by omega) (by omega)]
   cases R.2.2 == 0 <;> simp
theorem JV (m : aW) (H : Nat) (f : iT) (sh : List dA) (z : List (List dA)) (A : Int) (J : cA m = 0) (hf : m.funcs[H]? = some f) (hl : sh.length = f.2.2.2.2.length) (hs : sh.length ≤ 200) :
  qbq_W2 10000 (((H : Int), (sh, (z, (A, ((H : Int), (aA sh, 0)))))), aJ m) = some (if (List.range sh.length).all (kY m f sh) = true then Sum.inr ((z, (A, (H : Int))), aJ m) else Sum.inl (false, aJ m)) := by
 have h := pM (B := fun s => qbq_B2 10000 s.1.1 s.1.2.1 s.1.2.2.1 s.1.2.2.2.1 s.1.2.2.2.2.1 s.1.2.2.2.2.2.1 s.1.2.2.2.2.2.2 s.2.1 s.2.2.1 s.2.2.2.1 s.2.2.2.2.1 s.2.2.2.2.2) (mk := fun (j : Nat) => (((H : Int), (sh, (z, (A, ((H : Int), (aA sh, (j : Int))))))), aJ m))
  (p := kY m f sh) (found := fun j => Sum.inl (false, aJ m)) (e := Sum.inr ((z, (A, (H : Int))), aJ m)) sh.length (fun j hj => ?_) ?_ 10000 (by omega)
 ·rcases h with ⟨h1, h2⟩ | ⟨h1, j, _, h2⟩
  ·rw [h1, if_pos rfl]; exact h2
  ·rw [h1, if_neg (by simp)]; exact h2
 ·show qbq_B2 10000 (H : Int) sh z A (H : Int) (aA sh) (j : Int) m.recs m.funcs m.imps m.ints m.texts = _
  unfold qbq_B2
  rw [aC, decide_eq_true (by omega), yg, qee_eq m H j f (f.2.2.2.2[j]'(by omega)) sh sh[j] J hf (yd _) (yd _) hl, ya, aH (by omega)]
  cases kY m f sh j <;> rfl
 ·show qbq_B2 10000 (H : Int) sh z A (H : Int) (aA sh) (sh.length : Int) m.recs m.funcs m.imps m.ints m.texts = _
  unfold qbq_B2
  rw [aC, decide_eq_false (by omega), ye]
theorem jM {m : aW} (h : lT m = true) : cA m = 0 := by
 unfold lT at h
 rw [yc] at h
 exact beq_iff_eq.1 h.1
theorem qbq_eq (m : aW) (U : Fe m) (z : List (List dA)) : qbq 10000 m.recs m.funcs m.imps m.ints m.texts z = some (e9 m z) := by
 unfold qbq e9
 rw [KZ 10000 m U (by omega), ya]
 cases hM : lT m with
 | false => rfl
 | true =>
  have N := jM hM
  obtain ⟨k1, _, _, V, _⟩ := cZ (cJ N).1
  simp only [yw, ye, yu]
  rw [vF]
  by_cases hl : z.length = m.funcs.length
  ·rw [decide_eq_true hl]
   simp only [yw, ye, yu]
   have h := pM (B := fun s => qbq_B0 10000 s.1.1 s.1.2.1 s.1.2.2 s.2.1 s.2.2.1 s.2.2.2.1 s.2.2.2.2.1 s.2.2.2.2.2) (mk := fun (j : Nat) => ((z, (aA z, (j : Int))), aJ m))
    (p := Qd m z) (found := fun j => Sum.inl (false, aJ m)) (e := Sum.inr (aJ m)) z.length (fun j O => ?_) ?_ 10000 (by omega)
   ·rcases h with ⟨h1, h2⟩ | ⟨h1, j, _, h2⟩
    ·rw [h1, show qbq_W0 10000 ((z, (aA z, 0)), _) = _ from h2]; rfl
    ·rw [h1, show qbq_W0 10000 ((z, (aA z, 0)), _) = _ from h2]; rfl
   ·show qbq_B0 10000 z (aA z) (j : Int) m.recs m.funcs m.imps m.ints m.texts = _
    have K : z[j]? = some z[j] := yd O
    have H : m.funcs[j]? = some (m.funcs[j]'(by omega)) := yd _
    generalize z[j] = sh at K
    generalize m.funcs[j]'(by omega) = f at H
    unfold qbq_B0
    rw [GN K H, aC, decide_eq_true (by omega), yg, aE, K, ya, aE, H, ya, vF]
    by_cases A : sh.length = f.2.2.2.2.length
    ·have hk := V f (yj H)
     rw [decide_eq_true A, yw, ye]
     match sh, A, K with
     | [], A, _ => exfalso; simp at A; omega
     | x :: sh, A, K =>
      rw [show aD (x :: sh) 0 = some x from rfl, ya, ya, aC]
      have hW := JV m j f (x :: sh) z (z.length : Int) N H A (by omega)
      rw [show qbq_W2 10000 (((j : Int), (x :: sh, (z, ((z.length : Int), ((j : Int), (aA (x :: sh), 0)))))), (m.recs, (m.funcs, (m.imps, (m.ints, m.texts))))) = _ from hW]
      have J : nT m f (x :: sh) = ((x.1 && !decide (x.2.length > 0)) && (List.range (x :: sh).length).all (kY m f (x :: sh))) := by
       unfold nT
       rw [decide_eq_true A, yu]
      show _ = (if nT m f (x :: sh) = true then some (Sum.inl ((z, ((z.length : Int), ((j + 1 : Nat) : Int))), aJ m)) else some (Sum.inr (Sum.inl (false, aJ m))))
      rw [J]
      cases hb : x.1 with
      | false => rfl
      | true =>
       by_cases M : x.2.length > 0
       ·rw [decide_eq_true (by omega : (x.2.length : Int) > 0), decide_eq_true M]; rfl
       ·rw [decide_eq_false (by omega : ¬ (x.2.length : Int) > 0), decide_eq_false M]
        cases (List.range (x :: sh).length).all (kY m f (x :: sh)) with
        | false => rfl
        | true =>
         show some (Sum.inl ((z, ((z.length : Int), aI .i64 (j : Int) 1)), aJ m)) = _
         rw [aH (by omega)]; rfl
    ·have J : nT m f sh = false := by unfold nT; rw [decide_eq_false A]; rfl
     show _ = (if nT m f sh = true then some (Sum.inl ((z, ((z.length : Int), ((j + 1 : Nat) : Int))), aJ m)) else some (Sum.inr (Sum.inl (false, aJ m))))
     rw [J, decide_eq_false A]; rfl
   ·show qbq_B0 10000 z (aA z) (z.length : Int) m.recs m.funcs m.imps m.ints m.texts = _
    unfold qbq_B0
    rw [aC, decide_eq_false (by omega), ye]
  ·rw [decide_eq_false hl]; rfl
end Sx
end
section
namespace Sx
open Go Go.Ab
def Hr (t : cQ) : Prop := ((t.1 = 1 ∨ t.1 = 2 ∨ t.1 = 3 ∨ t.1 = 6 ∨ t.1 = 7 ∨ t.1 = 8) ∧ t.2 = 0) ∨ t.1 = 4 ∨ t.1 = 5
def FB (s : List cQ) : Prop := ∀ t ∈ s, Hr t
def E8 (t : cQ) : Nat := if t.1 = 8 then 3 else if t.1 = 7 then 2 else if t.1 = 6 then 0 else 1
def gP (a b : cQ) : cQ := if gF a b = true then b else if gF b a = true then a else if oK a = true ∧ oK b = true then (7, 0) else (8, 0)
theorem I3 (n : Nat) (a b : cQ) : qbx n a.1 a.2 b.1 b.2 = some (gP a b) := by
 unfold qbx gP
 rw [sN n a b, sN n b a, r8 n a, r8 n b]
 simp only [ya]
 cases gF a b <;> cases gF b a <;> cases oK a <;> cases oK b <;> rfl
theorem yM {recs : Int} {t : cQ} (h : fF recs t = true) : Hr t := by
 unfold fF at h
 unfold Hr
 split at h
 ·rename_i h1
  have := eq_of_beq h
  rcases h1 with h1 | h1 | h1 | h1
  ·exact .inl ⟨.inl h1, this⟩
  ·exact .inl ⟨.inr (.inl h1), this⟩
  ·exact .inl ⟨.inr (.inr (.inl h1)), this⟩
  ·exact .inl ⟨.inr (.inr (.inr (.inr (.inl h1)))), this⟩
 ·split at h
  ·exact .inr (.inl (by assumption))
  ·split at h
   ·exact .inr (.inr (by assumption))
   ·cases h
theorem IM {a b : cQ} (O : Hr a) (hb : Hr b) : Hr (gP a b) ∧ gF a (gP a b) = true ∧ gF b (gP a b) = true ∧ E8 (gP a b) ≤ 3 ∧ E8 a ≤ E8 (gP a b) ∧ (gP a b ≠ a → E8 a < E8 (gP a b)) := by
 have H : ∀ t : cQ, E8 t ≤ 3 := fun t => by unfold E8; split <;> (try split) <;> (try split) <;> omega
 have W : ∀ j : cQ, Hr j → gF a j = true → E8 a ≤ E8 j ∧ (j ≠ a → E8 a < E8 j) := by
  intro j V hs
  rcases (oA a j).1 hs with rfl | h8 | ⟨r1, r2, r3⟩
  ·exact ⟨yz _, fun h => absurd rfl h⟩
  ·have M : E8 j = 3 := by unfold E8; rw [if_pos h8]
   refine ⟨by rw [M]; exact H a, fun z => ?_⟩
   rw [M]
   by_cases U : a.1 = 8
   ·exfalso
    apply z
    unfold Hr at O V
    have e1 : a.2 = 0 := by omega
    have e2 : j.2 = 0 := by omega
    exact Prod.ext (by omega) (by omega)
   ·unfold E8
    rw [if_neg U]
    split
    ·omega
    ·split <;> omega
  ·rw [HL] at r1 r2
   have K : a.1 ≠ 8 := by omega
   have J : j.1 ≠ 8 := by omega
   unfold E8
   rw [if_neg K, if_neg J]
   by_cases N : a.1 = 7
   ·have A : j.1 = 7 := by omega
    rw [if_pos N, if_pos A]
    refine ⟨yz _, fun z => absurd (Prod.ext (by omega) ?_) z⟩
    unfold Hr at O V
    omega
   ·rw [if_neg N]
    by_cases A : j.1 = 7
    ·rw [if_pos A]
     exact ⟨by split <;> omega, fun _ => by split <;> omega⟩
    ·have Y : a.1 = 6 := by omega
     rw [if_neg A, if_pos Y]
     refine ⟨Nat.zero_le _, fun z => ?_⟩
     split
     ·rename_i hj6
      exfalso
      apply z
      unfold Hr at O V
      exact Prod.ext (by omega) (by omega)
     ·omega
 have hw : Hr (gP a b) ∧ gF a (gP a b) = true ∧ gF b (gP a b) = true := by
  unfold gP
  by_cases h1 : gF a b = true
  ·rw [if_pos h1]; exact ⟨hb, h1, AR b⟩
  ·rw [if_neg h1]
   by_cases h2 : gF b a = true
   ·rw [if_pos h2]; exact ⟨O, AR a, h2⟩
   ·rw [if_neg h2]
    by_cases H : oK a = true ∧ oK b = true
    ·rw [if_pos H]
     exact ⟨.inl ⟨.inr (.inr (.inr (.inr (.inl rfl)))), rfl⟩, (oA _ _).2 (.inr (.inr ⟨H.1, rfl, .inr rfl⟩)), (oA _ _).2 (.inr (.inr ⟨H.2, rfl, .inr rfl⟩))⟩
    ·rw [if_neg H]
     exact ⟨.inl ⟨.inr (.inr (.inr (.inr (.inr rfl)))), rfl⟩, (oA _ _).2 (.inr (.inl rfl)), (oA _ _).2 (.inr (.inl rfl))⟩
 obtain ⟨w1, Z, w3⟩ := hw
 obtain ⟨k1, k2⟩ := W _ w1 Z
 exact ⟨w1, Z, w3, H _, k1, k2⟩
theorem JH {m : aW} (h : cM m = true) : (∀ f ∈ m.funcs, FB f.1 ∧ Hr (f.2.1, f.2.2.1) ∧ FB f.2.2.2.1) ∧ (∀ i ∈ m.imps, Hr (i.2.1, i.2.2)) ∧ ∀ l ∈ m.recs, FB l := by
 simp only [cM, yc, decide_eq_true_eq, yx] at h
 obtain ⟨_, h2, _, _, H, _, z, _⟩ := h
 refine ⟨fun f hf => ?_, fun i A => ?_, fun l hl => ?_⟩
 ·have := H f hf
  simp only [oQ, bN, yc, yx] at this
  exact ⟨fun t ht => yM (this.1.2 t ht), yM this.2.1, fun t ht => yM (this.2.2.1.2 t ht)⟩
 ·have := z i A
  simp only [qI, yc] at this
  exact yM this.2
 ·have := h2 l hl
  simp only [bN, yc, yx] at this
  exact fun t ht => yM (this.2 t ht)
theorem Lv {a l : List cQ} (A : FB a) (hl : FB l) (k : Int) : Hr (AS a l k) := by
 unfold AS
 split
 ·rename_i h
  have z : k.toNat < (a ++ l).length := by rw [yi]; omega
  rw [yl, yd z]
  have := yu2 z
  rcases yb2.1 this with h | h
  ·exact A _ h
  ·exact hl _ h
 ·exact .inl ⟨.inr (.inr (.inr (.inr (.inr rfl)))), rfl⟩
theorem wX {t : cQ} (h : Hr t) : FB [t] := fun x hx => by rw [ym1.1 hx]; exact h
theorem QH {t u : cQ} (h : Hr t) (z : Hr u) : FB [t, u] := fun x hx => by
 rcases yq1.1 hx with rfl | hx
 ·exact h
 ·rw [ym1.1 hx]; exact z
theorem HZ : FB [] := fun x hx => by cases hx
theorem Ay (k : Int) (h : k = 1 ∨ k = 2 ∨ k = 3 ∨ k = 6 ∨ k = 7 ∨ k = 8) : Hr (k, 0) := .inl ⟨h, rfl⟩
theorem OY (n : Nat) (m : aW) (f : iT) (i : B6) (s : List cQ) (r : List cQ × List cQ × Bool) (hc : cA m = 0) (hf : f ∈ m.funcs) (hi : i ∈ f.2.2.2.2) (M : s.length ≤ 200) (Y : FB s)
  (z : qcs n m.recs m.funcs m.imps m.ints m.texts f.1 f.2.1 f.2.2.1 f.2.2.2.1 f.2.2.2.2 i.1 i.2.1 i.2.2 s = some r) : FB r.2.1 := by
 obtain ⟨hF, hB⟩ := cJ hc
 obtain ⟨k1, k2, k3, k4, k5⟩ := cZ hF
 obtain ⟨Z, g2, g3⟩ := JH hF
 have hN := kC hc hf hi
 have N := (k4 f hf).1 i hi
 have hfl := k4 f hf
 have H := mN N
 unfold jC at N
 have N := of_decide_eq_false N
 have ha := qR (op := i.1) (by omega)
 obtain ⟨op, x, y⟩ := i
 simp only at H
 have hk : op = 0 ∨ op = 1 ∨ op = 2 ∨ op = 3 ∨ op = 4 ∨ op = 5 ∨ op = 6 ∨ op = 7 ∨ op = 8 ∨ op = 9 ∨ op = 10 ∨ op = 11 ∨ op = 12 ∨ op = 13 ∨ op = 14 ∨ op = 15 ∨ op = 16 ∨ op = 17 ∨ op = 18 ∨ op = 19 ∨ op = 20 ∨ op = 21 ∨ op = 22 ∨ op = 23 ∨ op = 24 ∨ op = 25 ∨ op = 26 ∨ op = 27 ∨ op = 28 ∨ op = 29 ∨ op = 30 ∨ op = 31 ∨ op = 32 ∨ op = 33 ∨ op = 34 ∨ op = 35 ∨ op = 36 ∨ op = 37 ∨ op = 38 ∨ op = 39 ∨ op = 40 ∨ op = 41 := by simp only at ha; omega
 rcases hk with rfl | rfl | rfl | rfl | rfl | rfl | rfl | rfl | rfl | rfl | rfl | rfl | rfl | rfl | rfl | rfl | rfl | rfl | rfl | rfl | rfl | rfl | rfl | rfl | rfl | rfl | rfl | rfl | rfl | rfl | rfl | rfl | rfl | rfl | rfl | rfl | rfl | rfl | rfl | rfl | rfl | rfl
 ·obtain rfl := yb z; exact wX (Ay 1 (by omega))
 ·obtain rfl := yb z; exact wX (Ay 2 (by omega))
 ·obtain rfl := yb z; exact wX (Ay 6 (by omega))
 ·simp only [qcs, Int.reduceBEq, ye, yg, iO n f.1 f.2.1 f.2.2.1 f.2.2.2.1 f.2.2.2.2 x (by omega), ya] at z
  obtain rfl := yb z
  exact wX (Lv (Z f hf).1 (Z f hf).2.2 x)
 ·simp only [qcs, Int.reduceBEq, ye, yg, iO n f.1 f.2.1 f.2.2.1 f.2.2.2.1 f.2.2.2.2 x (by omega), ya] at z
  obtain rfl := yb z
  exact HZ
 ·obtain rfl := yb z; exact HZ
 ·simp only [qcs, Int.reduceBEq, ye, yg] at z
  by_cases h : 1 ≤ s.length
  ·obtain ⟨q, t, rfl⟩ := mX h
   rw [yi, yy1] at M
   have U : aD (q ++ [t]) (a8 .i64 (aA (q ++ [t])) 1) = some t := cR q [t] 1 0 (by simp; omega) rfl (by omega) (by simp)
   have J : a8 .i64 (aA (q ++ [t])) 1 = ((q.length : Nat) : Int) := by
    rw [aC, yi, bW (by simp <;> omega) (by simp <;> omega)]; simp
   rw [U, J, aC, yi, yy1, decide_eq_false (by omega), decide_eq_true (by omega), decide_eq_true (by omega)] at z
   simp only [yg, ye, ya, yd2, yb1] at z
   obtain rfl := yb z
   have ht := Y t (by simp)
   exact QH ht ht
  ·rw [aC, decide_eq_true (by omega)] at z
   obtain rfl := yb z
   exact HZ
 ·simp only [qcs, Int.reduceBEq, ye, yg] at z
  by_cases h : 2 ≤ s.length
  ·obtain ⟨q, t, u, rfl⟩ := De h
   rw [yi] at M
   simp only [ye1, yd3] at M
   have V : aD (q ++ [t, u]) (a8 .i64 (aA (q ++ [t, u])) 1) = some u := cR q [t, u] 1 1 (by simp; omega) rfl (by omega) (by simp)
   have O : aD (q ++ [t, u]) (a8 .i64 (aA (q ++ [t, u])) 2) = some t := cR q [t, u] 2 0 (by simp; omega) rfl (by omega) (by simp)
   have J : a8 .i64 (aA (q ++ [t, u])) 2 = ((q.length : Nat) : Int) := by
    rw [aC, yi, bW (by simp <;> omega) (by simp <;> omega)]; simp
   rw [V, O, J, aC, yi] at z
   simp only [ye1, yd3] at z
   rw [decide_eq_false (by omega), decide_eq_true (by omega), decide_eq_true (by omega)] at z
   simp only [yg, ye, ya, yd2, yb1] at z
   obtain rfl := yb z
   exact QH (Y u (by simp)) (Y t (by simp))
  ·rw [aC, decide_eq_true (by omega)] at z
   obtain rfl := yb z
   exact HZ
 ·obtain rfl := yb z; exact wX (Ay 1 (by omega))
 ·obtain rfl := yb z; exact wX (Ay 1 (by omega))
 ·obtain rfl := yb z; exact wX (Ay 1 (by omega))
 ·obtain rfl := yb z; exact wX (Ay 1 (by omega))
 ·obtain rfl := yb z; exact wX (Ay 1 (by omega))
 ·obtain rfl := yb z; exact wX (Ay 1 (by omega))
 ·obtain rfl := yb z; exact wX (Ay 1 (by omega))
 ·obtain rfl := yb z; exact wX (Ay 1 (by omega))
 ·obtain rfl := yb z; exact wX (Ay 1 (by omega))
 ·obtain rfl := yb z; exact wX (Ay 1 (by omega))
 ·obtain rfl := yb z; exact wX (Ay 1 (by omega))
 ·obtain rfl := yb z; exact wX (Ay 1 (by omega))
 ·obtain rfl := yb z; exact wX (Ay 1 (by omega))
 ·obtain rfl := yb z; exact wX (Ay 1 (by omega))
 ·obtain rfl := yb z; exact QH (Ay 1 (by omega)) (Ay 1 (by omega))
 ·obtain rfl := yb z; exact HZ
 ·obtain rfl := yb z; exact HZ
 ·have A : x < (m.funcs.length : Int) := of_decide_eq_true (show decide (x < aA m.funcs) = true from hN)
  obtain ⟨a, e, hm⟩ := fA H.1 A
  simp only [qcs, Int.reduceBEq, ye, yg, e, ya] at z
  obtain rfl := yb z
  exact wX (Z a hm).2.1
 ·obtain rfl := yb z; exact HZ
 ·have A : x < (m.imps.length : Int) := of_decide_eq_true (show decide (x < aA m.imps) = true from hN)
  obtain ⟨a, e, hm⟩ := fA H.1 A
  simp only [qcs, Int.reduceBEq, ye, yg, e, ya] at z
  obtain rfl := yb z
  exact wX (g2 a hm)
 ·have A : x < (m.recs.length : Int) := of_decide_eq_true (show decide (x < aA m.recs) = true from hN)
  obtain ⟨a, e, hm⟩ := fA H.1 A
  simp only [qcs, Int.reduceBEq, ye, yg, e, ya] at z
  obtain rfl := yb z
  exact wX (.inr (.inl rfl))
 ·have hN : (bif decide (x < aA m.recs) then (aD m.recs x).bind fun l => some (decide (y < aA l)) else some false).getD false = true := hN
  by_cases A : x < (m.recs.length : Int)
  ·rw [aC, decide_eq_true A, yg] at hN
   obtain ⟨a, e, hm⟩ := fA H.1 A
   rw [e] at hN
   have W : y < (a.length : Int) := of_decide_eq_true hN
   obtain ⟨b, e2, K⟩ := fA H.2.2.1 W
   simp only [qcs, Int.reduceBEq, ye, yg, e, e2, ya] at z
   obtain rfl := yb z
   exact wX (g3 a hm b K)
  ·rw [aC, decide_eq_false A] at hN; cases hN
 ·have hN : (bif decide (x < aA m.recs) then (aD m.recs x).bind fun l => some (decide (y < aA l)) else some false).getD false = true := hN
  by_cases A : x < (m.recs.length : Int)
  ·rw [aC, decide_eq_true A, yg] at hN
   obtain ⟨a, e, hm⟩ := fA H.1 A
   rw [e] at hN
   have W : y < (a.length : Int) := of_decide_eq_true hN
   obtain ⟨b, e2, K⟩ := fA H.2.2.1 W
   simp only [qcs, Int.reduceBEq, ye, yg, e, e2, ya] at z
   obtain rfl := yb z
   exact HZ
  ·rw [aC, decide_eq_false A] at hN; cases hN
 ·obtain rfl := yb z; exact wX (Ay 3 (by omega))
 ·obtain rfl := yb z; exact wX (Ay 1 (by omega))
 ·obtain rfl := yb z; exact HZ
 ·obtain rfl := yb z; exact wX (Ay 1 (by omega))
 ·obtain rfl := yb z; exact wX (Ay 2 (by omega))
 ·obtain rfl := yb z; exact wX (Ay 1 (by omega))
 ·obtain rfl := yb z; exact HZ
 ·obtain rfl := yb z; exact wX (Ay 1 (by omega))
 ·obtain rfl := yb z; exact wX (Ay 1 (by omega))
 ·obtain rfl := yb z; exact wX (Ay 1 (by omega))
 ·simp only [qcs, Int.reduceBEq, ye, yg] at z
  by_cases h : 1 ≤ s.length
  ·obtain ⟨q, t, rfl⟩ := mX h
   rw [yi, yy1] at M
   have U : aD (q ++ [t]) (a8 .i64 (aA (q ++ [t])) 1) = some t := cR q [t] 1 0 (by simp; omega) rfl (by omega) (by simp)
   have J : a8 .i64 (aA (q ++ [t])) 1 = ((q.length : Nat) : Int) := by
    rw [aC, yi, bW (by simp <;> omega) (by simp <;> omega)]; simp
   rw [U, J, aC, yi, yy1, decide_eq_false (by omega), decide_eq_true (by omega), decide_eq_true (by omega)] at z
   simp only [yg, ye, ya, yd2, yb1] at z
   cases h5 : t.1 != 5 <;> rw [h5] at z <;> (obtain rfl := yb z; exact HZ)
  ·rw [aC, decide_eq_true (by omega)] at z
   obtain rfl := yb z
   exact HZ
theorem NA {m : aW} {J pk : Nat} {f : iT} {i : B6} {s : List cQ} (K : cA m = 0) (hf : m.funcs[J]? = some f) (z : f.2.2.2.2[pk]? = some i) (A : s.length ≤ 200) (H : FB s) : FB (eO m f i (pk : Int) s).1 ∧ (eO m f i (pk : Int) s).1.length ≤ 8 := by
 obtain ⟨_, _, N, _, _, _⟩ := Ad m J pk f i s K hf z A
 have M := OY 10000 m f i s _ K (yj hf) (yj z) A H N
 unfold eO m7
 split
 ·exact ⟨HZ, by simp⟩
 ·rename_i h
  split
  ·exact ⟨HZ, by simp⟩
  ·refine ⟨fun t ht => ?_, ?_⟩
   ·rcases yb2.1 ht with h | h
    ·exact H t (List.mem_of_mem_take h)
    ·exact M t h
   ·simp only [yi, yl2]
    have : ¬ (s.length - (BK m f i s).1.length + (BK m f i s).2.1.length > 8) := fun O => h (.inr (.inr (.inl O)))
    omega
end Sx
end
section
namespace Sx
open Go Go.Ab
def At : List cQ → Nat
 | [] => 0
 | t :: r => E8 t + At r
def f9 : List cQ → List cQ → List cQ
 | x :: s, y :: a => gP x y :: f9 s a
 | _, _ => []
theorem Bl (x y : cQ) (s a : List cQ) : eB (x :: s) (y :: a) = (gF x y && eB s a) := by
 unfold eB KF
 simp only [ye1, List.zip_cons_cons, ye3, Nat.add_right_cancel_iff]
 cases gF x y <;> cases decide (s.length = a.length) <;> rfl
theorem By : ∀ (s a : List cQ), s.length = a.length → FB s → FB a → FB (f9 s a) ∧ (f9 s a).length = s.length ∧ eB s (f9 s a) = true ∧ eB a (f9 s a) = true ∧ At s ≤ At (f9 s a) ∧
  (f9 s a ≠ s → At s < At (f9 s a))
 | [], [], _, _, _ => ⟨HZ, rfl, rfl, rfl, yz _, fun h => absurd rfl h⟩
 | x :: s, y :: a, hl, H, A => by
  have z : s.length = a.length := by simpa using hl
  obtain ⟨V, O, J, K, i5, Z⟩ := By s a z (fun t ht => H t (yk _ ht)) (fun t ht => A t (yk _ ht))
  obtain ⟨Y, W, M, j4, j5, N⟩ := IM (H x (yn ..)) (A y (yn ..))
  refine ⟨fun t ht => ?_, by simp [f9, O], ?_, ?_, ?_, fun h => ?_⟩
  ·rcases yq1.1 ht with rfl | ht
   ·exact Y
   ·exact V t ht
  ·show eB (x :: s) (gP x y :: f9 s a) = true
   rw [Bl, W, J]; rfl
  ·show eB (y :: a) (gP x y :: f9 s a) = true
   rw [Bl, M, K]; rfl
  ·show E8 x + At s ≤ E8 (gP x y) + At (f9 s a)
   omega
  ·show E8 x + At s < E8 (gP x y) + At (f9 s a)
   by_cases hx : gP x y = x
   ·have : f9 s a ≠ s := fun U => h (by show gP x y :: f9 s a = x :: s; rw [hx, U])
    have := Z this
    omega
   ·have := N hx
    omega
 | [], _ :: _, hl, _, _ => by simp at hl
 | _ :: _, [], hl, _, _ => by simp at hl
theorem Pq (t : cQ) : E8 t ≤ 3 := by unfold E8; split <;> (try omega); split <;> (try omega); split <;> omega
theorem KW : ∀ s : List cQ, At s ≤ 3 * s.length
 | [] => by simp [At]
 | t :: r => by
  have := KW r; have := Pq t
  simp only [At, ye1]; omega
theorem Oc (x y : cQ) : NU x y = true ↔ x = y := by
 unfold NU
 rw [yc, beq_iff_eq, beq_iff_eq]
 exact ⟨fun h => Prod.ext h.1 h.2, fun h => by rw [h]; exact ⟨rfl, rfl⟩⟩
theorem Iq (s a : List cQ) : KF NU s a = true ↔ s = a := by
 constructor
 ·intro h
  obtain ⟨h1, h2⟩ := Cc h
  exact List.ext_getElem h1 fun i z A => (Oc _ _).1 (h2 i z A)
 ·rintro rfl
  exact IK s fun x _ => Nl x
theorem Lk {a b : List cQ} (h : eB a b = true) : a.length = b.length := (Cc h).1
def O1 (x : dA) : Nat := if x.1 = true then 1 + At x.2 else 0
def mu : List dA → Nat
 | [] => 0
 | x :: r => O1 x + mu r
theorem NM : ∀ (l : List dA) (k : Nat) (x v : dA), l[k]? = some x → mu (l.set k v) + O1 x = mu l + O1 v
 | [], k, x, v, h => by simp at h
 | y :: r, 0, x, v, h => by
  obtain rfl : y = x := by simpa using h
  simp only [List.set_cons_zero, mu]; omega
 | y :: r, k + 1, x, v, h => by
  have := NM r k x v (by simpa using h)
  simp only [List.set_cons_succ, mu]; omega
structure rJ (L : Nat) (mp : List dA) : Prop where
 len : mp.length = L
 fst : mp[0]? = some (true, [])
 all : ∀ x ∈ mp, FB x.2 ∧ x.2.length ≤ 8
theorem O7 : ∀ (l : List dA), (∀ x ∈ l, FB x.2 ∧ x.2.length ≤ 8) → mu l ≤ 25 * l.length
 | [], _ => by simp [mu]
 | x :: r, h => by
  have h1 := O7 r fun y z => h y (yk _ z)
  have h2 := (h x (yn ..)).2
  have h3 := KW x.2
  have h4 : O1 x ≤ 25 := by unfold O1; split <;> omega
  simp only [mu, ye1]; omega
def O3 (a b : List dA) : Prop := a.length = b.length ∧ ∀ (k : Nat) (x : dA), a[k]? = some x → ∃ y : dA, b[k]? = some y ∧ (x.1 = true → y.1 = true ∧ eB x.2 y.2 = true)
theorem O3.refl (a : List dA) : O3 a a := ⟨rfl, fun k x h => ⟨x, h, fun z => ⟨z, rM _⟩⟩⟩
theorem O3.trans {a b c : List dA} (h : O3 a b) (A : O3 b c) : O3 a c := ⟨h.1.trans A.1, fun k x hx => by
 obtain ⟨y, J, f⟩ := h.2 k x hx
 obtain ⟨z, H, g⟩ := A.2 k y J
 exact ⟨z, H, fun e => ⟨(g (f e).1).1, y7 (f e).2 (g (f e).1).2⟩⟩⟩
structure qE (c : Bool) (a : List dA) (c' : Bool) (b : List dA) : Prop where
 le : O3 a b
 or : (c' = c ∧ b = a) ∨ (c' = true ∧ mu a < mu b)
theorem qE.refl (c : Bool) (a : List dA) : qE c a c a := ⟨O3.refl a, .inl ⟨rfl, rfl⟩⟩
theorem qE.trans {c A H : Bool} {a b d : List dA} (h : qE c a A b) (z : qE A b H d) : qE c a H d := ⟨h.le.trans z.le, by
 rcases h.or with ⟨rfl, rfl⟩ | ⟨h1, h2⟩
 ·exact z.or
 ·rcases z.or with ⟨rfl, rfl⟩ | ⟨J, h4⟩
  ·exact .inr ⟨h1, h2⟩
  ·exact .inr ⟨J, by omega⟩⟩
theorem Ii {L : Nat} {mp : List dA} (hI : rJ L mp) {k : Nat} {x v : dA} (A : mp[k]? = some x) (U : FB v.2) (W : v.2.length ≤ 8) (h1 : v.1 = true) (O : x.1 = true → eB x.2 v.2 = true) (N : O1 x < O1 v) (c : Bool) :
  rJ L (mp.set k v) ∧ qE c mp true (mp.set k v) ∧ (mp.set k v)[k]? = some v := by
 have H : k < mp.length := (yh.1 A).1
 have K : (mp.set k v)[k]? = some v := by rw [yf1 H]
 refine ⟨⟨by rw [List.length_set]; exact hI.len, ?_, fun y z => ?_⟩, ⟨⟨by rw [List.length_set], fun j y z => ?_⟩, .inr ⟨rfl, ?_⟩⟩, K⟩
 ·by_cases J : k = 0
  ·subst J
   rw [hI.fst] at A
   obtain rfl := yb A
   exfalso
   have h2 := Lk (O rfl)
   have Y : v.2 = [] := List.length_eq_zero_iff.1 h2.symm
   have V : v = (true, []) := Prod.ext h1 Y
   rw [V] at N
   exact Nat.lt_irrefl _ N
  ·rw [yg1 J]; exact hI.fst
 ·rcases ym2 z with h | rfl
  ·exact hI.all y h
  ·exact ⟨U, W⟩
 ·by_cases M : k = j
  ·subst M
   rw [A] at z
   obtain rfl := yb z
   exact ⟨v, K, fun e => ⟨h1, O e⟩⟩
  ·exact ⟨y, by rw [yg1 M]; exact z, fun e => ⟨e, rM _⟩⟩
 ·have := NM mp k x v A
  omega
theorem Mq {a b : List dA} (h : O3 a b) {s : List cQ} {t : Int} (hn : dN a s t = true) : dN b s t = true := by
 unfold dN at hn ⊢
 cases hx : aD a t with
 | none => rw [hx] at hn; cases hn
 | some x =>
  rw [hx] at hn
  simp only [yc] at hn
  have z : 0 ≤ t ∧ a[t.toNat]? = some x := by
   unfold aD at hx
   by_cases A : 0 ≤ t
   ·refine ⟨A, ?_⟩
    simpa [A] using hx
   ·simp [A] at hx
  obtain ⟨y, H, f⟩ := h.2 _ x z.2
  have : aD b t = some y := by
   obtain ⟨k, rfl⟩ := Int.eq_ofNat_of_zero_le z.1
   rw [aE]; simpa using H
  rw [this]
  simp only [yc]
  exact ⟨(f hn.1).1, y7 hn.2 (f hn.1).2⟩
end Sx
end
section
namespace Sx
open Go Go.Ab
theorem KT (n : Nat) (N : Int) (M : Bool) (V : Int) (H : List Int) (A : Int) (J : Nat) (m : aW) (U : List (List dA)) (O : List dA) : ∀ (s a h z : List cQ) (j : Nat), h.length = z.length → s.length = a.length → z.length + a.length ≤ 1000 → a.length < j →
  aL (fun s => qdm_B8 n s.1.1 s.1.2.1 s.1.2.2.1 s.1.2.2.2.1 s.1.2.2.2.2.1 s.1.2.2.2.2.2.1 s.1.2.2.2.2.2.2.1 s.1.2.2.2.2.2.2.2 s.2.1.1 s.2.1.2.1 s.2.1.2.2.1 s.2.1.2.2.2.1 s.2.1.2.2.2.2 s.2.2.1 s.2.2.2.1 s.2.2.2.2) j
   ((N, (M, (V, (z ++ a, (H, (A, (J, ((z.length : Nat) : Int)))))))), (aJ m, (U, (O, h ++ s)))) = some ((N, (M, (V, (z ++ a, (H, (A, J)))))), (aJ m, (U, (O, h ++ f9 s a))))
 | [], [], h, z, j + 1, h1, _, W, _ => by
  refine bG ?_
  show qdm_B8 n N M V (z ++ []) H A J ((z.length : Nat) : Int) m.recs m.funcs m.imps m.ints m.texts U O (h ++ []) = _
  unfold qdm_B8
  rw [aC, decide_eq_false (by simp), ye]
  rfl
 | x :: s, y :: a, h, z, j + 1, h1, h2, W, h4 => by
  have g1 : (h ++ x :: s)[z.length]? = some x := by rw [← h1]; simp
  have Z : aD (z ++ y :: a) ((z.length : Nat) : Int) = some y := by rw [aE]; simp
  have g3 : ∀ v, (h ++ x :: s).set z.length v = h ++ v :: s := fun v => by rw [← h1]; simp
  have K : qdm_B8 n N M V (z ++ y :: a) H A J ((z.length : Nat) : Int) m.recs m.funcs m.imps m.ints m.texts U O (h ++ x :: s)
    = some (Sum.inl ((N, (M, (V, (z ++ y :: a, (H, (A, (J, ((z.length + 1 : Nat) : Int)))))))), (aJ m, (U, (O, h ++ gP x y :: s))))) := by
   have e1 : decide (((z.length : Nat) : Int) < (((h ++ x :: s).length : Nat) : Int)) = true := decide_eq_true (by rw [yi, h1, ye1]; omega)
   unfold qdm_B8
   rw [aC, decide_eq_true (by rw [yi, ye1]; omega), yg, e1, decide_eq_true (by omega), yd2, yg, yb1, g1, ya, Z, ya, I3, ya,
    yg, yv2 (by rw [yi, h1, ye1]; omega), yg, g3, cN (by simp only [ye1] at W; omega) (by simp only [ye1] at W; omega)]
   rfl
  refine (bM K).trans ?_
  have Y := KT n N M V H A J m U O s a (h ++ [gP x y]) (z ++ [y]) j (by simp [h1]) (by simpa using h2) (by simp only [yi, ye1, yd3] at W ⊢; omega) (by simp only [ye1] at h4; omega)
  rw [yw1, yw1, yw1, yi] at Y
  exact Y
 | [], _ :: _, _, _, _, _, h2, _, _ => by simp at h2
 | _ :: _, [], _, _, _, _, h2, _, _ => by simp at h2
theorem Nm (n : Nat) (hn : 100 ≤ n) (M : Int) (J : Bool) (K : Int) (A : List Int) (z : Int) (H : Nat) (m : aW) (N : List (List dA)) (O : List dA) (s a : List cQ) (hl : s.length = a.length) (h8 : a.length ≤ 8) :
  qdm_W8 n ((M, (J, (K, (a, (A, (z, (H, 0))))))), (aJ m, (N, (O, s)))) = some ((M, (J, (K, (a, (A, (z, H)))))), (aJ m, (N, (O, f9 s a)))) := by
 have h := KT n M J K A z H m N O s a [] [] n rfl hl (by simp; omega) (by omega)
 exact h
theorem v9 {mp : List dA} {k : Nat} {v : dA} {h : List cQ} (z : mp[k]? = some v) (h1 : v.1 = true) (h2 : eB h v.2 = true) : dN mp h (k : Int) = true := by
 unfold dN
 rw [aE, z]
 simp only [h1, h2, yd2]
theorem O6 (m : aW) {L : Nat} {mp : List dA} (hI : rJ L mp) (W Y : Int) (K : Bool) (V : List (List dA)) (z : List cQ) (to : List Int) (hw : FB z) (h8 : z.length ≤ 8) (i : Nat) (t : Int) (ht : to[i]? = some t) (h0 : 0 ≤ t) (hL : t < (L : Int)) (hL64 : L ≤ 64) (h10 : to.length ≤ 10) :
  (∃ O : Bool × List dA, qdm_B6 10000 W K Y z to (i : Int) m.recs m.funcs m.imps m.ints m.texts V mp = some (Sum.inl ((W, (O.1, (Y, (z, (to, ((i + 1 : Nat) : Int)))))), (aJ m, (V, O.2)))) ∧ rJ L O.2 ∧ qE K mp O.1 O.2 ∧ dN O.2 z t = true) ∨
  qdm_B6 10000 W K Y z to (i : Int) m.recs m.funcs m.imps m.ints m.texts V mp = some (Sum.inr (Sum.inl (([], false), (aJ m, (V, mp))))) := by
 obtain ⟨k, rfl⟩ := Int.eq_ofNat_of_zero_le h0
 have U : k < mp.length := by rw [hI.len]; omega
 obtain ⟨x, hx⟩ : ∃ x, mp[k]? = some x := ⟨_, yd U⟩
 have hi : i < to.length := (yh.1 ht).1
 have Z := hI.all x (yj hx)
 unfold qdm_B6
 rw [aC, decide_eq_true (by omega), yg, aE, ht, ya, decide_eq_true (by omega), decide_eq_true (by omega), yd2, yg, yb1, hx, ya]
 cases J : x.1 with
 | false =>
  refine .inl ⟨(true, mp.set k (true, z)), ?_, ?_⟩
  ·simp only [yw2, yg, ya]
   rw [yf1 U, ya, List.set_set, cN (by omega) (by omega)]
   rfl
  ·have := Ii hI hx (v := (true, z)) hw h8 rfl (fun e => by rw [J] at e; cases e) (by simp [O1, J]; omega) K
   exact ⟨this.1, this.2.1, v9 this.2.2 rfl (rM _)⟩
 | true =>
  simp only [yw, ye, ya]
  rw [vF]
  by_cases H : x.2.length = z.length
  ·rw [decide_eq_true H, yw, ye, yv2 (by omega), yg, Nm 10000 (by omega) W K Y to (i : Int) k m V mp x.2 z H h8, ya]
   obtain ⟨j1, j2, j3, j4, j5, j6⟩ := By x.2 z H Z.1 hw
   show (∃ O : Bool × List dA, ((mp[k]?).bind fun A => (qbs 10000 (f9 x.2 z) A.2).bind fun M => _) = _ ∧ _) ∨ ((mp[k]?).bind fun A => (qbs 10000 (f9 x.2 z) A.2).bind fun M => _) = _
   rw [hx, ya, Fg 10000 _ _ (by omega) (by omega), ya]
   refine .inl ?_
   cases he : KF NU (f9 x.2 z) x.2 with
   | true =>
    have N := (Iq _ _).1 he
    refine ⟨(K, mp), ?_, hI, qE.refl _ _, v9 hx J (by rw [← N]; exact j4)⟩
    simp only [yw, ye]
    rw [cN (by omega) (by omega)]
    rfl
   | false =>
    have N : f9 x.2 z ≠ x.2 := fun h => by rw [(Iq _ _).2 h] at he; cases he
    refine ⟨(true, mp.set k (x.1, f9 x.2 z)), ?_, ?_⟩
    ·simp only [yw2, yg, ya]
     rw [cN (by omega) (by omega)]
     rfl
    ·have := Ii hI hx (v := (x.1, f9 x.2 z)) j1 (by rw [j2]; omega) J (fun _ => j3) (by simp only [O1, J, if_true]; have := j6 N; omega) K
     exact ⟨this.1, this.2.1, v9 this.2.2 J j4⟩
  ·rw [decide_eq_false H, yw2, yg]
   exact .inr rfl
theorem OW (m : aW) {L : Nat} {mp : List dA} (hI : rJ L mp) (K M : Int) (V : Bool) (H : List (List dA)) (z : List cQ) (to : List Int) (hw : FB z) (h8 : z.length ≤ 8) (ht : ∀ t ∈ to, 0 ≤ t ∧ t < (L : Int)) (U : L ≤ 64) (h10 : to.length ≤ 10) :
  ∃ y, qdm_W6 10000 ((K, (V, (M, (z, (to, 0))))), (aJ m, (H, mp))) = some y ∧ ((∃ A, y = Sum.inl (([], false), (aJ m, (H, A)))) ∨
   ∃ N A, y = Sum.inr ((K, (N, M)), (aJ m, (H, A))) ∧ rJ L A ∧ qE V mp N A ∧ ∀ t ∈ to, dN A z t = true) := by
 refine dW (xs := to) (mk := fun i (a : Bool × List dA) => ((K, (a.1, (M, (z, (to, (i : Int)))))), (aJ m, (H, a.2)))) (I := fun i a => rJ L a.2 ∧ qE V mp a.1 a.2 ∧ ∀ (k : Nat) (t : Int), k < i → to[k]? = some t → dN a.2 z t = true) ?_ ?_ to.length 0 10000 (V, mp) (by omega) ⟨hI, qE.refl _ _, fun k t W => by omega⟩ (by omega)
 ·rintro i ⟨c, l⟩ t J ⟨i1, i2, Y⟩
  have O := ht t (yj J)
  rcases O6 m i1 K M c H z to hw h8 i t J O.1 O.2 U h10 with ⟨a', h1, h2, h3, h4⟩ | h
  ·refine .inl ⟨a', h1, h2, i2.trans h3, fun k u W hu => ?_⟩
   by_cases hki : k = i
   ·subst hki
    rw [J] at hu
    obtain rfl := yb hu
    exact h4
   ·exact Mq h3.le (Y k u (by omega) hu)
  ·exact .inr ⟨_, h, .inl ⟨l, rfl⟩⟩
 ·rintro ⟨c, l⟩ ⟨i1, i2, Y⟩
  refine ⟨Sum.inr ((K, (c, M)), (aJ m, (H, l))), ?_, .inr ⟨c, l, rfl, i1, i2, fun t Z => ?_⟩⟩
  ·show qdm_B6 10000 K c M z to (to.length : Int) m.recs m.funcs m.imps m.ints m.texts H l = _
   unfold qdm_B6
   rw [aC, decide_eq_false (by omega), ye]
  ·obtain ⟨k, W⟩ := List.mem_iff_getElem?.1 Z
   exact Y k t (yh.1 W).1 W
end Sx
end
