/- Plain laws (texts ImA, ImG, ImS, ImT, ImU, ImV, ImW, ImX, ImB, ImC, ImD, ImE, ImRowV, ImRowX). -/
import Derived.Test.YtmoldheenagboaaImgSh
import Derived.Test.YtmoldheenagboaaLib8
import Derived.Test.YtmoldheenagboaaLib7
import Derived.KernelRfl
import Derived.Test.YtmoldheenagboaaLib31
section
/- Numbers, types and instructions as bytes: what the printed functions come to. -/
set_option linter.unusedVariables false
set_option linter.unusedSimpArgs false
namespace Sx
open Go Go.Ab
def varF : Nat → Nat → List Int
 | 0, v => [(v : Int)]
 | k + 1, v => if v < 128 then [(v : Int)] else ((128 + v % 128 : Nat) : Int) :: varF k (v / 128)
def varN (v : Nat) : List Int := varF 10 v
theorem zis : ∀ (k v : Nat), 1 ≤ (varF k v).length ∧ (varF k v).length ≤ k + 1
 | 0, v => ⟨Nat.le_refl _, Nat.le_refl _⟩
 | k + 1, v => by
  unfold varF
  split
  ·exact ⟨by simp, by simp⟩
  ·have := zis k (v / 128)
   rw [List.length_cons]; omega
theorem zlg (v : Nat) : 1 ≤ (varN v).length ∧ (varN v).length ≤ 11 := zis 10 v
theorem zhX : ∀ (k v : Nat), v < 128 ^ (k + 1) → ∀ x ∈ varF k v, 0 ≤ x ∧ x ≤ 255
 | 0, v, h, x, hx => by
  simp only [varF, List.mem_singleton] at hx
  omega
 | k + 1, v, h, x, hx => by
  unfold varF at hx
  split at hx
  ·rw [List.mem_singleton.1 hx]; omega
  ·rcases List.mem_cons.1 hx with rfl | hx
   ·omega
   ·exact zhX k (v / 128) (by rw [Nat.pow_succ] at h; omega) x hx
theorem zmj {v : Nat} (h : v < 18446744073709551616) : ∀ x ∈ varN v, 0 ≤ x ∧ x ≤ 255 := zhX 10 v (by omega)
theorem or128 (v : Nat) : orI .u8 (cvtI .u8 (v : Int)) 128 = ((128 + v % 128 : Nat) : Int) := by
 rw [zaF]
 have h : ∀ m : Nat, m < 256 → orI .u8 (m : Int) 128 = ((128 + m % 128 : Nat) : Int) := by decide +kernel
 have := h (v % 256) (by omega)
 rw [show ((v : Int) % 256) = ((v % 256 : Nat) : Int) by omega, this]
 omega
theorem shr7 (v : Nat) : shrI .u64 (v : Int) 7 = ((v / 128 : Nat) : Int) := by
 show (v : Int).fdiv (2 ^ (min (7 : Int).toNat 64)) = _
 rw [show ((2 : Int) ^ (min (7 : Int).toNat 64)) = 128 from rfl, Int.fdiv_eq_ediv_of_nonneg _ (by omega)]
 omega
theorem qci_loop (n : Nat) : ∀ (k v m : Nat) (acc : List Int), v < 128 ^ (k + 1) → acc.length + k ≤ 4294967000 → k < m → ∃ r, loopS (fun s => qci_B0 n s.1 s.2) m ((v : Int), acc) = some r ∧ 0 ≤ r.1 ∧ r.1 ≤ 127 ∧ r.2 ++ [r.1] = acc ++ varF k v ∧ r.2.length ≤ acc.length + k
 | 0, v, m + 1, acc, hv, ha, hm => by
  refine ⟨((v : Int), acc), zy ?_, by omega, by simp only []; omega, rfl, by simp⟩
  show qci_B0 n (v : Int) acc = _
  unfold qci_B0
  rw [decide_eq_false (by omega), cond_false]
 | k + 1, v, m + 1, acc, hv, ha, hm => by
  by_cases h : v < 128
  ·refine ⟨((v : Int), acc), zy ?_, by omega, by simp only []; omega, by simp [varF, h], by simp⟩
   show qci_B0 n (v : Int) acc = _
   unfold qci_B0
   rw [decide_eq_false (by omega), cond_false]
  ·have hb : qci_B0 n (v : Int) acc = some (Sum.inl (((v / 128 : Nat) : Int), acc ++ [((128 + v % 128 : Nat) : Int)])) := by
    unfold qci_B0
    rw [decide_eq_true (by omega), cond_true, or128, shr7, zj (by simp; omega), cond_true]
   rw [zM (s := ((v : Int), acc)) hb]
   obtain ⟨r, h1, h2, h3, h4, h5⟩ := qci_loop n k (v / 128) m (acc ++ [((128 + v % 128 : Nat) : Int)]) (by rw [Nat.pow_succ] at hv; omega) (by simp; omega) (by omega)
   refine ⟨r, h1, h2, h3, ?_, by simp at h5; omega⟩
   rw [h4, varF, if_neg h]
   simp
 | _, _, 0, _, _, _, hm => by omega
theorem qci_eq (n v : Nat) (hv : v < 18446744073709551616) (hn : 20 ≤ n) : qci n (v : Int) = some (varN v) := by
 unfold qci
 obtain ⟨r, h1, h2, h3, h4, h5⟩ := qci_loop n 10 v n [] (by omega) (by simp) (by omega)
 rw [show qci_W0 n ((v : Int), []) = some r from h1, Option.bind_some, zeZ h2 (by omega), h4, zj (by have := zlg v; simp [varN] at this; simp; omega), cond_true]
 rfl
theorem quo128 {v : Nat} (hv : v < 18446744073709551616) : quoI .u64 (v : Int) 128 = ((v / 128 : Nat) : Int) := by
 show IntKind.u64.wrap ((v : Int).tdiv 128) = _
 rw [Int.tdiv_eq_ediv_of_nonneg (by omega), wrapU64]
 omega
theorem zko (n : Nat) : ∀ (k v d : Nat), v < 128 ^ (k + 1) → v < 18446744073709551616 → k < d → k ≤ 11 → qcd_D n d (v : Int) = some (varF k v)
 | 0, v, d + 1, hv, h64, hd, hk => by
  show qcd_S n (qcd_D n d) (v : Int) = _
  unfold qcd_S
  rw [decide_eq_true (by omega), cond_true, zeZ (by omega) (by omega)]; rfl
 | k + 1, v, d + 1, hv, h64, hd, hk => by
  show qcd_S n (qcd_D n d) (v : Int) = _
  unfold qcd_S
  by_cases h : v < 128
  ·rw [decide_eq_true (by omega), cond_true, zeZ (by omega) (by omega), varF, if_pos h]
  ·have hl := zis k (v / 128)
   rw [decide_eq_false (by omega), cond_false, quo128 h64, zko n k (v / 128) d (by rw [Nat.pow_succ] at hv; omega) (by omega) (by omega) (by omega), Option.bind_some, zab (by omega)]
   have h1 : addI .u64 128 ((v : Int) % 128) = ((128 + v % 128 : Nat) : Int) := by
    show IntKind.u64.wrap _ = _
    rw [wrapU64]; omega
   rw [h1, zeZ (by omega) (by omega), zj (by simp; omega), cond_true, varF, if_neg h]
   rfl
 | _, _, 0, _, _, hd, _ => by omega
theorem znp (n v : Nat) (hv : v < 18446744073709551616) (hn : 20 ≤ n) : qcd n (v : Int) = some (varN v) := zko n 10 v n (by omega) hv (by omega) (by omega)
theorem zbN {α : Type} (xs : List α) (h : xs.length ≤ 4294967296) : cvtI .u64 (lenI xs) = ((xs.length : Nat) : Int) := by
 rw [zd, zaJ (by omega) (by omega)]
def fixN (k v : Nat) : List Int := (List.range k).map fun i => ((v / 256 ^ i % 256 : Nat) : Int)
theorem zoF (k v : Nat) : (fixN k v).length = k := by simp [fixN]
def pos (k : Int) : Nat := k.toNat
end Sx
end
section
/- Fixed numbers; sums of lengths. -/
set_option linter.unusedVariables false
set_option linter.unusedSimpArgs false
namespace Sx
open Go Go.Ab
theorem quo256 {v : Nat} (hv : v < 18446744073709551616) : quoI .u64 (v : Int) 256 = ((v / 256 : Nat) : Int) := by
 show IntKind.u64.wrap ((v : Int).tdiv 256) = _
 rw [Int.tdiv_eq_ediv_of_nonneg (by omega), wrapU64]
 omega
theorem zjD (n : Nat) (v : Nat) (hv : v < 18446744073709551616) (hn : 20 ≤ n) : qbt n (v : Int) 8 = some (fixN 8 v) := by
 have h := zeJ (B := fun s => qbt_B0 n s.1.1 s.1.2.1 s.1.2.2 s.2) (xs := List.range 8) (mk := fun i (a : List Int) => ((((v / 256 ^ i : Nat) : Int), ((8 : Int), (i : Int))), a)) (I := fun i a => a = (List.range i).map fun j => ((v / 256 ^ j % 256 : Nat) : Int)) (Q := fun y => y = fixN 8 v)
  (fun i a x hx hI => ?_) (fun a hI => ?_) 8 0 n [] (by simp) rfl (by omega)
 ·obtain ⟨y, h1, rfl⟩ := h
  unfold qbt
  rw [Nat.pow_zero, Nat.div_one] at h1
  rw [show qbt_W0 n (((v : Int), ((8 : Int), 0)), []) = _ from h1]
  rfl
 ·have hi := zw hx
  rw [List.length_range] at hi
  subst hI
  have hd : v / 256 ^ i < 18446744073709551616 := Nat.lt_of_le_of_lt (Nat.div_le_self _ _) hv
  have e1 : v / 256 ^ (i + 1) = v / 256 ^ i / 256 := by rw [Nat.pow_succ, Nat.div_div_eq_div_mul]
  have e2 : (List.range (i + 1)).map (fun j => ((v / 256 ^ j % 256 : Nat) : Int)) = (List.range i).map (fun j => ((v / 256 ^ j % 256 : Nat) : Int)) ++ [((v / 256 ^ i % 256 : Nat) : Int)] := by
   rw [List.range_succ, List.map_append]; rfl
  refine .inl ⟨_, ?_, rfl⟩
  rw [e1, e2]
  generalize v / 256 ^ i = q at hd
  show qbt_B0 n (q : Int) 8 (i : Int) ((List.range i).map fun j => ((v / 256 ^ j % 256 : Nat) : Int)) = _
  unfold qbt_B0
  rw [decide_eq_true (by omega), cond_true, cond_true, zab (by omega), zeZ (by omega) (by omega), quo256 hd, zj (by simp; omega), cond_true, zt (by omega)]
  rfl
 ·subst hI
  refine ⟨_, ?_, rfl⟩
  rfl
theorem zeY {S X A : Type} {B : S → Option (S ⊕ X)} {xs : List A} {mk : Nat → Int → S} {f : A → Nat} {e : Int → X} {c : Nat} {base : Int} (hb : 0 ≤ base) (hc : ∀ x ∈ xs, f x ≤ c) (hcap : base + (c : Int) * (xs.length : Int) ≤ 9000000000000000000)
  (hs : ∀ i a x, xs[i]? = some x → x ∈ xs → 0 ≤ a → a + (f x : Int) ≤ 9000000000000000000 → B (mk i a) = some (.inl (mk (i + 1) (a + (f x : Int))))) (he : ∀ a, B (mk xs.length a) = some (.inr (e a))) {n : Nat} (hn : xs.length < n) :
  ∃ a, loopS B n (mk 0 base) = some (e a) ∧ base ≤ a ∧ a ≤ base + (c : Int) * (xs.length : Int) ∧ ∀ x ∈ xs, (f x : Int) ≤ a := by
 have h := zeJ (B := B) (xs := xs) (mk := mk) (I := fun i a => base ≤ a ∧ a ≤ base + (c : Int) * (i : Int) ∧ ∀ x ∈ xs.take i, (f x : Int) ≤ a) (Q := fun y => ∃ a, y = e a ∧ base ≤ a ∧ a ≤ base + (c : Int) * (xs.length : Int) ∧ ∀ x ∈ xs, (f x : Int) ≤ a)
  (fun i a x hx hI => ?_) (fun a hI => ?_) xs.length 0 n base (by omega) ⟨Int.le_refl _, by simp, by simp⟩ hn
 ·obtain ⟨y, h1, a, rfl, h2⟩ := h
  exact ⟨a, h1, h2⟩
 ·have hi := zw hx
  have hm := List.mem_of_getElem? hx
  have hcx := hc x hm
  obtain ⟨h1, h2, h3⟩ := hI
  have hmul : (c : Int) * (i : Int) + (c : Int) ≤ (c : Int) * (xs.length : Int) := by
   have : (c * (i + 1) : Nat) ≤ c * xs.length := Nat.mul_le_mul_left c hi
   rw [Nat.mul_succ] at this
   have h := Int.ofNat_le.2 this
   simpa using h
  have hsucc : (c : Int) * ((i + 1 : Nat) : Int) = (c : Int) * (i : Int) + (c : Int) := by
   rw [Int.natCast_add, Int.mul_add]; simp
  refine .inl ⟨_, hs i a x hx hm (by omega) (by omega), by omega, by rw [hsucc]; omega, fun z hz => ?_⟩
  rw [List.take_add_one, hx, List.mem_append] at hz
  rcases hz with hz | hz
  ·have := h3 z hz; omega
  ·simp at hz; subst hz; omega
 ·obtain ⟨h1, h2, h3⟩ := hI
  rw [List.take_length] at h3
  exact ⟨_, he a, a, rfl, h1, h2, h3⟩
theorem zag {a b : Int} (h1 : 0 ≤ a) (h2 : 0 ≤ b) (h3 : a + b ≤ 9000000000000000000) : addI .i64 a b = a + b := zaI (by omega) (by omega)
end Sx
end
section
/- The plain laws of the sums: what the printed functions come to. -/
set_option linter.unusedVariables false
set_option linter.unusedSimpArgs false
namespace Sx
open Go Go.Ab
def it {α : Type} (f : α → α) : Nat → α → α
 | 0, x => x
 | k + 1, x => f (it f k x)
theorem zoM {α : Type} (f : α → α) : ∀ (k : Nat) (x : α), it f (k + 1) x = it f k (f x)
 | 0, x => rfl
 | k + 1, x => congrArg f (zoM f k x)
def stp (x : BitVec 32) : BitVec 32 := (x >>> 1) ^^^ (bif x.getLsbD 0 then 0xedb88320#32 else 0#32)
def bst (x : BitVec 32) (c : Int) : BitVec 32 := it stp 8 (x ^^^ BitVec.ofInt 32 c)
def crc (x : BitVec 32) (b : List Int) : BitVec 32 := b.foldl bst x
def sumV (b : List Int) : BitVec 32 := ~~~(crc 0xffffffff#32 b)
def IsBytes (b : List Int) : Prop := ∀ x ∈ b, 0 ≤ x ∧ x ≤ 255
theorem zpp (x : BitVec 32) : (W32 x) % 2 = (bif x.getLsbD 0 then 1 else 0) := by
 unfold W32
 have h : x.getLsbD 0 = decide (x.toNat % 2 = 1) := by
  rw [BitVec.getLsbD, Nat.testBit_zero]
 rw [h]
 cases hd : decide (x.toNat % 2 = 1) with
 | true => have := of_decide_eq_true hd; simp only [cond_true]; omega
 | false => have := of_decide_eq_false hd; simp only [cond_false]; omega
theorem zpF (x : BitVec 32) : andI .u32 (W32 x) 1 = (bif x.getLsbD 0 then 1 else 0) := by
 rw [zpC, zbp, show BitVec.ofInt 32 1 = 1#32 from rfl, BitVec.and_one_eq_setWidth_ofBool_getLsbD]
 cases x.getLsbD 0 <;> rfl
theorem zqd (x : BitVec 32) : xorI .u32 (shrI .u32 (W32 x) 1) (mulI .u32 3988292384 (andI .u32 (W32 x) 1)) = W32 (stp x) := by
 rw [zgC, zoJ, zbp, zpF]
 unfold stp
 cases x.getLsbD 0 <;> rfl
theorem zpz (x : BitVec 32) : (bif (remI (W32 x) 2) == 1 then xorI .u32 (quoI .u32 (W32 x) 2) 3988292384 else quoI .u32 (W32 x) 2) = W32 (stp x) := by
 rw [zab (zaR x).1, zpp, zol]
 unfold stp
 cases x.getLsbD 0 with
 | false =>
  show W32 (x >>> 1) = W32 (x >>> 1 ^^^ 0#32)
  rw [BitVec.xor_zero]
 | true =>
  show xorI .u32 (W32 (x >>> 1)) 3988292384 = _
  rw [zgC, zbp]; rfl
theorem zqg (n : Nat) (x : BitVec 32) (a : List Int) (b c : Int) (hn : 9 ≤ n) : qcj_W2 n (W32 x, a, b, c, 0) = some (W32 (it stp 8 x), a, b, c) := by
 refine zar (f := fun i => (W32 (it stp i x), a, b, c, (i : Int))) (k := 8) (fun i hi => ?_) ?_ 8 0 n rfl (by omega)
 ·show qcj_B2 n _ _ _ _ _ = _
  dsimp only
  unfold qcj_B2
  rw [decide_eq_true (by omega), cond_true, zqd, zaI (by omega) (by omega)]
  rfl
 ·rfl
theorem zhh {α β : Type} (f : β → α → β) (x : β) (l : List α) (i : Nat) (c : α) (h : l[i]? = some c) : (l.take (i + 1)).foldl f x = f ((l.take i).foldl f x) c := by
 rw [List.take_add_one, h, List.foldl_append]
 rfl
theorem zql (n : Nat) (b : List Int) (hb : IsBytes b) (hl : b.length ≤ 4294967296) (hn : b.length + 9 ≤ n) : qcj_W0 n (4294967295, (b, ((lenI b), 0))) = some (W32 (crc 0xffffffff#32 b)) := by
 have := zar (B := fun s => qcj_B0 n s.1 s.2.1 s.2.2.1 s.2.2.2) (f := fun i => (W32 (crc 0xffffffff#32 (b.take i)), b, lenI b, (i : Int))) (k := b.length) (x := W32 (crc 0xffffffff#32 b)) (fun i hi => ?_) ?_ b.length 0 n (by omega) (by omega)
 ·exact this
 ·show qcj_B0 n _ _ _ _ = _
  dsimp only
  unfold qcj_B0
  have hg : b[i]? = some b[i] := List.getElem?_eq_getElem hi
  have hc := hb b[i] (List.getElem_mem hi)
  rw [zd, decide_eq_true (by omega), cond_true, zr, hg]
  show ((qcj_W2 n (xorI .u32 (W32 (crc 0xffffffff#32 (b.take i))) (cvtI .u32 b[i]), b, (b.length : Int), (i : Int), 0)).bind fun r2 => some (Sum.inl (r2.1, (r2.2.1, (r2.2.2.1, (addI .i64 r2.2.2.2 1)))))) = _
  rw [zgR hc.1 (by omega), zgC, zbp, zqg _ _ _ _ _ (by omega)]
  show some (Sum.inl (W32 (bst (crc 0xffffffff#32 (b.take i)) b[i]), b, (b.length : Int), addI .i64 (i : Int) 1)) = _
  rw [zaI (by omega) (by omega)]
  have : crc 0xffffffff#32 (b.take (i + 1)) = bst (crc 0xffffffff#32 (b.take i)) b[i] := zhh _ _ _ _ _ hg
  rw [← this]
  rfl
 ·show qcj_B0 n _ _ _ _ = _
  dsimp only
  unfold qcj_B0
  rw [zd, decide_eq_false (by omega), cond_false, List.take_length]
theorem of_eq (n : Nat) (b : List Int) (hb : IsBytes b) (hl : b.length ≤ 4294967296) (hn : b.length + 9 ≤ n) : qcj n b = some (W32 (sumV b)) := by
 unfold qcj
 rw [zql n b hb hl hn]
 show some (notI .u32 (W32 (crc 0xffffffff#32 b))) = _
 rw [zmQ]
 rfl
theorem zpW (n : Nat) (b : List Int) (x : BitVec 32) (c : Int) (hn : 9 ≤ n) : qcc_W2 n (b, W32 x, c, 0) = some (b, W32 (it stp 8 x), c) := by
 refine zar (f := fun i => (b, W32 (it stp i x), c, (i : Int))) (k := 8) (fun i hi => ?_) ?_ 8 0 n rfl (by omega)
 ·show qcc_B2 n _ _ _ _ = _
  dsimp only
  unfold qcc_B2
  have h := zpz (it stp i x)
  rw [decide_eq_true (by omega), cond_true, zaI (by omega) (by omega)]
  cases hc : remI (W32 (it stp i x)) 2 == 1 with
  | true => rw [hc, cond_true] at h; rw [cond_true, h]; rfl
  | false => rw [hc, cond_false] at h; rw [cond_false, h]; rfl
 ·rfl
theorem zpZ (n : Nat) (b : List Int) (hb : IsBytes b) (hl : b.length ≤ 4294967296) (hn : b.length + 9 ≤ n) : qcc_W0 n (b, (4294967295, 0)) = some (W32 (crc 0xffffffff#32 b)) := by
 have := zar (B := fun s => qcc_B0 n s.1 s.2.1 s.2.2) (f := fun i => (b, W32 (crc 0xffffffff#32 (b.take i)), (i : Int))) (k := b.length) (x := W32 (crc 0xffffffff#32 b)) (fun i hi => ?_) ?_ b.length 0 n (by omega) (by omega)
 ·exact this
 ·show qcc_B0 n _ _ _ = _
  dsimp only
  unfold qcc_B0
  have hg : b[i]? = some b[i] := List.getElem?_eq_getElem hi
  have hc := hb b[i] (List.getElem_mem hi)
  rw [zd, decide_eq_true (by omega), cond_true, zr, hg]
  show ((qcc_W2 n (b, xorI .u32 (W32 (crc 0xffffffff#32 (b.take i))) (cvtI .u32 b[i]), (i : Int), 0)).bind fun r2 => some (Sum.inl (r2.1, (r2.2.1, (addI .i64 r2.2.2 1))))) = _
  rw [zgR hc.1 (by omega), zgC, zbp, zpW _ _ _ _ (by omega)]
  show some (Sum.inl (b, W32 (bst (crc 0xffffffff#32 (b.take i)) b[i]), addI .i64 (i : Int) 1)) = _
  rw [zaI (by omega) (by omega)]
  have : crc 0xffffffff#32 (b.take (i + 1)) = bst (crc 0xffffffff#32 (b.take i)) b[i] := zhh _ _ _ _ _ hg
  rw [← this]
  rfl
 ·show qcc_B0 n _ _ _ = _
  dsimp only
  unfold qcc_B0
  rw [zd, decide_eq_false (by omega), cond_false, List.take_length]
theorem znK (n : Nat) (b : List Int) (hb : IsBytes b) (hl : b.length ≤ 4294967296) (hn : b.length + 9 ≤ n) : qcc n b = some (W32 (sumV b)) := by
 unfold qcc
 rw [zpZ n b hb hl hn]
 show some (notI .u32 (W32 (crc 0xffffffff#32 b))) = _
 rw [zmQ]
 rfl
def le4 (x : BitVec 32) : List Int := [W32 x % 256, W32 x / 256 % 256, W32 x / 65536 % 256, W32 x / 16777216 % 256]
theorem zky (n : Nat) (x : BitVec 32) (hn : 5 ≤ n) : qcb n (W32 x) 4 = some (le4 x) := by
 obtain ⟨m, rfl⟩ : ∃ m, n = m + 5 := ⟨n - 5, by omega⟩
 have h : qcb (m + 5) (W32 x) 4 = some [cvtI .u8 (shrI .u64 (W32 x) 0), cvtI .u8 (shrI .u64 (W32 x) 8), cvtI .u8 (shrI .u64 (W32 x) 16), cvtI .u8 (shrI .u64 (W32 x) 24)] := rfl
 have hx := zaR x
 rw [h]
 have e : ∀ (k : Int) (d : Int), 0 < d → 2 ^ (min k.toNat 64) = d → cvtI .u8 (shrI .u64 (W32 x) k) = W32 x / d % 256 := by
  intro k d hd hk
  rw [zaF]
  show (W32 x).fdiv (2 ^ (min k.toNat 64)) % 256 = _
  rw [hk, Int.fdiv_eq_ediv_of_nonneg _ (by omega)]
 rw [e 0 1 (by omega) rfl, e 8 256 (by omega) rfl, e 16 65536 (by omega) rfl, e 24 16777216 (by omega) rfl, Int.ediv_one]
 rfl
theorem zdf (n : Nat) (x : BitVec 32) (hn : 5 ≤ n) : qbt n (W32 x) 4 = some (le4 x) := by
 obtain ⟨m, rfl⟩ : ∃ m, n = m + 5 := ⟨n - 5, by omega⟩
 have h : qbt (m + 5) (W32 x) 4 = some [cvtI .u8 (remI (W32 x) 256), cvtI .u8 (remI (quoI .u64 (W32 x) 256) 256), cvtI .u8 (remI (quoI .u64 (quoI .u64 (W32 x) 256) 256) 256), cvtI .u8 (remI (quoI .u64 (quoI .u64 (quoI .u64 (W32 x) 256) 256) 256) 256)] := rfl
 have hx := zaR x
 have q : ∀ v : Int, 0 ≤ v → v ≤ 4294967295 → quoI .u64 v 256 = v / 256 := by
  intro v h1 h2
  show IntKind.u64.wrap (v.tdiv 256) = _
  rw [Int.tdiv_eq_ediv_of_nonneg h1, wrapU64]
  omega
 rw [h, q (W32 x) (by omega) (by omega), q (W32 x / 256) (by omega) (by omega), q (W32 x / 256 / 256) (by omega) (by omega), zab (by omega), zab (by omega), zab (by omega), zab (by omega),
  zaF, zaF, zaF, zaF]
 unfold le4
 have e1 : W32 x / 256 / 256 = W32 x / 65536 := by omega
 have e2 : W32 x / 65536 / 256 = W32 x / 16777216 := by omega
 rw [e1, e2]
 simp
theorem zfr (x : BitVec 32) : IsBytes (le4 x) := by
 intro y hy
 simp only [le4, List.mem_cons, List.not_mem_nil, or_false] at hy
 rcases hy with rfl | rfl | rfl | rfl <;> omega
def sealV (b : List Int) : List Int := b ++ le4 (sumV b)
theorem zbm (b : List Int) : (sealV b).length = b.length + 4 := by simp [sealV, le4]
theorem zan {b : List Int} (h : IsBytes b) : IsBytes (sealV b) := by
 intro x hx
 rcases List.mem_append.1 hx with hx | hx
 ·exact h x hx
 ·exact zfr _ x hx
theorem zmR (n : Nat) (b : List Int) (hb : IsBytes b) (hl : b.length ≤ 4294967000) (hn : b.length + 9 ≤ n) : qcg n b = some (sealV b) := by
 unfold qcg
 have h1 : Nat.ble b.length 4294967296 = true := Nat.ble_eq_true_of_le (by omega)
 have h2 : Nat.ble (b ++ le4 (sumV b)).length 4294967296 = true := Nat.ble_eq_true_of_le (by simp [le4]; omega)
 have hw := zaR (sumV b)
 rw [h1, cond_true, of_eq n b hb (by omega) hn]
 show ((qcb n (cvtI .u64 (W32 (sumV b))) 4).bind fun r8 => bif (Nat.ble (b ++ r8).length 4294967296) then some (b ++ r8) else none) = _
 rw [zaJ (by omega) (by omega), zky n _ (by omega)]
 show (bif (Nat.ble (b ++ le4 (sumV b)).length 4294967296) then some (b ++ le4 (sumV b)) else none) = _
 rw [h2]
 rfl
theorem zhb (n : Nat) (b : List Int) (hb : IsBytes b) (hl : b.length ≤ 4294967000) (hn : b.length + 9 ≤ n) : qca n b = some (sealV b) := by
 unfold qca
 have h1 : Nat.ble b.length 4294967296 = true := Nat.ble_eq_true_of_le (by omega)
 have h2 : Nat.ble (b ++ le4 (sumV b)).length 4294967296 = true := Nat.ble_eq_true_of_le (by simp [le4]; omega)
 have hw := zaR (sumV b)
 rw [h1, cond_true, znK n b hb (by omega) hn]
 show ((qbt n (cvtI .u64 (W32 (sumV b))) 4).bind fun r8 => bif (Nat.ble (b ++ r8).length 4294967296) then some (b ++ r8) else none) = _
 rw [zaJ (by omega) (by omega), zdf n _ (by omega)]
 show (bif (Nat.ble (b ++ le4 (sumV b)).length 4294967296) then some (b ++ le4 (sumV b)) else none) = _
 rw [h2]
 rfl
theorem zmH (n : Nat) (a b : List Int) (hl : a.length = b.length) (hm : a.length ≤ 4294967296) : ∀ (j i m : Nat), i + j = a.length → j < m → loopS (fun s => qby_B0 n s.1 s.2.1 s.2.2) m (a, b, (i : Int)) = some (if a.drop i = b.drop i then Sum.inr () else Sum.inl false)
 | 0, i, m + 1, hi, hmm => by
  have : i = a.length := by omega
  subst this
  have h : qby_B0 n a b (a.length : Int) = some (Sum.inr (Sum.inr ())) := by
   unfold qby_B0
   rw [zd, decide_eq_false (by omega), cond_false]
  rw [zy (s := (a, b, (a.length : Int))) (x := Sum.inr ()) h]
  rw [List.drop_length, hl, List.drop_length, if_pos rfl]
 | j + 1, i, m + 1, hi, hmm => by
  have ha : a[i]? = some a[i] := List.getElem?_eq_getElem (by omega)
  have hb : b[i]? = some b[i] := List.getElem?_eq_getElem (by omega)
  have da : a.drop i = a[i] :: a.drop (i + 1) := List.drop_eq_getElem_cons (by omega)
  have db : b.drop i = b[i] :: b.drop (i + 1) := List.drop_eq_getElem_cons (by omega)
  have h : qby_B0 n a b (i : Int) = if a[i] = b[i] then some (Sum.inl (a, b, ((i + 1 : Nat) : Int))) else some (Sum.inr (Sum.inl false)) := by
   unfold qby_B0
   rw [zd, decide_eq_true (by omega), cond_true, zr, ha, zr, hb]
   show (bif a[i] != b[i] then some (Sum.inr (Sum.inl false)) else some (Sum.inl (a, b, addI .i64 (i : Int) 1))) = _
   rw [zaI (by omega) (by omega)]
   by_cases he : a[i] = b[i]
   ·rw [if_pos he, he, bne_self_eq_false, cond_false]; rfl
   ·rw [if_neg he, bne_iff_ne.2 he, cond_true]
  by_cases he : a[i] = b[i]
  ·rw [if_pos he] at h
   have hiff : (a.drop i = b.drop i) ↔ (a.drop (i + 1) = b.drop (i + 1)) := by rw [da, db, he]; exact ⟨fun h => (List.cons.inj h).2, fun h => by rw [h]⟩
   rw [zM (s := (a, b, (i : Int))) (s' := (a, b, ((i + 1 : Nat) : Int))) h, zmH n a b hl hm j (i + 1) m (by omega) (by omega)]
   simp only [hiff]
  ·rw [if_neg he] at h
   have hne : ¬ (a.drop i = b.drop i) := by rw [da, db]; exact fun h => he (List.cons.inj h).1
   rw [zy (s := (a, b, (i : Int))) (x := Sum.inl false) h, if_neg hne]
 | _, _, 0, _, hmm => by omega
theorem zpt (n : Nat) (a b : List Int) (hm : a.length ≤ 4294967296) (hn : a.length < n) : qby n a b = some (decide (a = b)) := by
 unfold qby
 rw [zd, zd]
 by_cases hl : a.length = b.length
 ·rw [show ((a.length : Int) != (b.length : Int)) = false by rw [hl, bne_self_eq_false], cond_false]
  have h := zmH n a b hl hm a.length 0 n (by omega) hn
  rw [List.drop_zero, List.drop_zero] at h
  show ((loopS (fun s => qby_B0 n s.1 s.2.1 s.2.2) n (a, b, ((0 : Nat) : Int))).bind fun r59 => Sum.rec (fun u60 => some u60) (fun v61 => some true) r59) = _
  rw [h]
  by_cases he : a = b
  ·rw [if_pos he, decide_eq_true he]; rfl
  ·rw [if_neg he, decide_eq_false he]; rfl
 ·rw [show ((a.length : Int) != (b.length : Int)) = true by rw [bne_iff_ne]; omega, cond_true, decide_eq_false (fun h => hl (by rw [h]))]
theorem zjm (n : Nat) (a : List Int) (hm : a.length ≤ 4294967296) (hn : a.length < n) : qby n a a = some true := by rw [zpt n a a hm hn]; simp
def openV (b : List Int) : List Int × Int := if b.length < 4 then ([], 3) else if sealV (b.take (b.length - 4)) = b then (b.take (b.length - 4), 0) else ([], 3)
theorem zej {b : List Int} (h : IsBytes b) (k : Nat) : IsBytes (b.take k) := fun x hx => h x (List.mem_of_mem_take hx)
theorem sub4 {b : List Int} (hl : b.length ≤ 4294967000) (h : ¬ b.length < 4) : subI .i64 (lenI b) 4 = ((b.length - 4 : Nat) : Int) := by
 rw [zd, zif (by omega) (by omega)]
 omega
theorem zjQ (n : Nat) (b : List Int) (hb : IsBytes b) (hl : b.length ≤ 4294967000) (hn : b.length + 9 ≤ n) : qcf n b = some (openV b) := by
 unfold qcf openV
 by_cases h : b.length < 4
 ·rw [zd, decide_eq_true (by omega), cond_true, if_pos h]
 ·have hlen : (b.take (b.length - 4)).length = b.length - 4 := by rw [List.length_take]; omega
  rw [sub4 hl h, zd, decide_eq_false (by omega), cond_false, if_neg h, decide_eq_true (by omega), decide_eq_true (by omega), Bool.and_self, cond_true, Int.toNat_natCast]
  rw [zmR n _ (zej hb _) (by omega) (by omega)]
  show (bif !(eqS (intsBytes (sealV (b.take (b.length - 4)))) (intsBytes b)) then some (([] : List Int), (3 : Int)) else bif Nat.ble (b.take (b.length - 4)).length 4294967296 then some (b.take (b.length - 4), 0) else none) = _
  rw [zoC (zan (zej hb _)) hb, show Nat.ble (b.take (b.length - 4)).length 4294967296 = true from Nat.ble_eq_true_of_le (by omega)]
  by_cases he : sealV (b.take (b.length - 4)) = b
  ·rw [decide_eq_true he, if_pos he]; rfl
  ·rw [decide_eq_false he, if_neg he]; rfl
theorem ziD (b : List Int) : openV (sealV b) = (b, 0) := by
 unfold openV
 have h : (sealV b).take ((sealV b).length - 4) = b := by rw [zbm]; simp [sealV]
 rw [if_neg (by rw [zbm]; omega), h, if_pos rfl]
end Sx
end
section
/- Readers: what the printed functions come to. -/
set_option linter.unusedVariables false
set_option linter.unusedSimpArgs false
namespace Sx
open Go Go.Ab
def takeV (k : Int) (xs : List Int) (bad : Bool) : List Int × List Int × Bool :=
 if bad = true ∨ k < 0 ∨ k > xs.length then ([], xs, true) else (xs.take k.toNat, xs.drop k.toNat, false)
theorem zds (n : Nat) (k : Int) (xs : List Int) (bad : Bool) (hx : xs.length ≤ 4294967296) : qax n k xs bad = some (takeV k xs bad) := by
 unfold qax takeV
 simp only [qbg, qav, Option.bind_some]
 cases bad with
 | true => rfl
 | false =>
  simp only [cond_false, Bool.false_eq_true, false_or]
  by_cases h1 : k < 0
  ·rw [decide_eq_true h1, if_pos (.inl h1)]; rfl
  ·rw [decide_eq_false h1, cond_false, zd]
   by_cases h2 : k > (xs.length : Int)
   ·rw [decide_eq_true h2, if_pos (.inr h2)]; rfl
   ·rw [decide_eq_false h2, if_neg (by omega), cond_false, decide_eq_true (by omega : (0 : Int) ≤ k), decide_eq_true (by omega : k ≤ ((xs.length : Nat) : Int)), zj (by rw [List.length_take]; omega)]
    simp only [Bool.and_self, cond_true, List.take_length]
theorem zfA (k : Int) (xs : List Int) (bad : Bool) : (takeV k xs bad).2.1.length ≤ xs.length ∧ (takeV k xs bad).1.length ≤ xs.length := by
 unfold takeV
 split
 ·exact ⟨Nat.le_refl _, by simp⟩
 ·exact ⟨by simp, by simp; omega⟩
theorem mul7 : ∀ k : Nat, k ≤ 9 → (decide (0 ≤ mulI .i64 7 (k : Int))) = true ∧ mulI .i64 7 (k : Int) = ((7 * k : Nat) : Int) := by decide
def vstep (v x : Int) (k : Nat) : Int := orI .u64 v (shlI .u64 (cvtI .u64 (andNotI .u8 x 128)) ((7 * k : Nat) : Int))
def varR : List Int → Nat → Int → Int × List Int × Bool
 | [], _, _ => (0, [], true)
 | x :: xs, k, v => if (k = 9 ∧ x > 1) ∨ (k > 0 ∧ x = 0) then (0, xs, true) else if x < 128 then (vstep v x k, xs, false) else varR xs (k + 1) (vstep v x k)
def varV (xs : List Int) (bad : Bool) : Int × List Int × Bool := if bad = true then (0, xs, true) else varR xs 0 0
theorem zkR (n : Nat) : ∀ (xs : List Int) (k : Nat) (v : Int) (m : Nat), k ≤ 9 → xs.length ≤ 4294967296 → 10 - k < m → loopS (fun s => qan_B0 n s.1.1 s.1.2 s.2.1 s.2.2) m ((v, (k : Int)), (xs, false)) = some (varR xs k v)
 | [], k, v, m + 1, hk, hx, hm => by
  refine zy ?_
  show qan_B0 n v (k : Int) [] false = _
  unfold qan_B0
  rw [zds n 1 [] false (by simp), Option.bind_some]
  rfl
 | x :: xs, k, v, m + 1, hk, hx, hm => by
  have ht : takeV 1 (x :: xs) false = ([x], xs, false) := by
   unfold takeV
   rw [if_neg (by simp; omega)]
   rfl
  have hB : qan_B0 n v (k : Int) (x :: xs) false = if (k = 9 ∧ x > 1) ∨ (k > 0 ∧ x = 0) then some (Sum.inr (0, (xs, true))) else if x < 128 then some (Sum.inr (vstep v x k, (xs, false))) else some (Sum.inl ((vstep v x k, ((k + 1 : Nat) : Int)), (xs, false))) := by
   unfold qan_B0
   rw [zds n 1 (x :: xs) false hx, ht, Option.bind_some]
   simp only [qav, Option.bind_some]
   rw [show getI [x] 0 = some x from rfl, show (lenI [x] == 0) = false from rfl, cond_false, Option.bind_some, (mul7 k hk).1, (mul7 k hk).2, zt (by omega)]
   simp only [cond_true]
   have e9 : ((k : Int) == 9) = decide (k = 9) := by
    by_cases h : k = 9
    ·subst h; rfl
    ·rw [decide_eq_false h, beq_eq_false_iff_ne]; omega
   have e0 : decide ((k : Int) > 0) = decide (k > 0) := by
    by_cases h : k > 0
    ·rw [decide_eq_true h, decide_eq_true (by omega)]
    ·rw [decide_eq_false h, decide_eq_false (by omega)]
   rw [e9, e0]
   unfold vstep
   by_cases h9 : k = 9
   ·subst h9
    by_cases hx1 : x > 1
    ·rw [if_pos (.inl ⟨rfl, hx1⟩), decide_eq_true hx1]; rfl
    ·by_cases hx0 : x = 0
     ·subst hx0; rw [if_pos (.inr ⟨by omega, rfl⟩)]; rfl
     ·rw [if_neg (by omega), decide_eq_false hx1, show (x == 0) = false from beq_eq_false_iff_ne.2 hx0, if_pos (by omega), decide_eq_true (by omega : x < 128)]; rfl
   ·rw [decide_eq_false h9, cond_false]
    by_cases hk0 : k > 0
    ·rw [decide_eq_true hk0, cond_true]
     by_cases hx0 : x = 0
     ·subst hx0; rw [if_pos (.inr ⟨hk0, rfl⟩)]; rfl
     ·rw [if_neg (by omega), show (x == 0) = false from beq_eq_false_iff_ne.2 hx0, cond_false]
      by_cases h128 : x < 128
      ·rw [if_pos h128, decide_eq_true h128]; rfl
      ·rw [if_neg h128, decide_eq_false h128]; rfl
    ·rw [decide_eq_false hk0, cond_false, if_neg (by omega)]
     by_cases h128 : x < 128
     ·rw [if_pos h128, decide_eq_true h128]; rfl
     ·rw [if_neg h128, decide_eq_false h128]; rfl
  unfold varR
  by_cases hc : (k = 9 ∧ x > 1) ∨ (k > 0 ∧ x = 0)
  ·rw [if_pos hc] at hB ⊢
   exact zy hB
  ·rw [if_neg hc] at hB ⊢
   by_cases h128 : x < 128
   ·rw [if_pos h128] at hB ⊢
    exact zy hB
   ·rw [if_neg h128] at hB ⊢
    have hk9 : k ≠ 9 := by intro h; apply hc; left; exact ⟨h, by omega⟩
    rw [zM (s := ((v, (k : Int)), (x :: xs, false))) hB]
    exact zkR n xs (k + 1) (vstep v x k) m (by omega) (by simp at hx; omega) (by omega)
 | _, _, _, 0, _, _, hm => by omega
theorem zlW (n : Nat) (xs : List Int) (bad : Bool) (hx : xs.length ≤ 4294967296) (hn : 20 ≤ n) : qan n xs bad = some (varV xs bad) := by
 unfold qan varV
 cases bad with
 | true =>
  have hB : qan_B0 n 0 0 xs true = some (Sum.inr (0, (xs, true))) := by
   unfold qan_B0
   rw [zds n 1 xs true hx, Option.bind_some]
   rfl
  have : qan_W0 n ((0, 0), (xs, true)) = some (0, (xs, true)) := by
   obtain ⟨m, rfl⟩ : ∃ m, n = m + 1 := ⟨n - 1, by omega⟩
   exact zy hB
  rw [this]; rfl
 | false =>
  have : qan_W0 n ((0, 0), (xs, false)) = some (varR xs 0 0) := zkR n xs 0 0 n (by omega) hx (by omega)
  rw [this]; rfl
theorem zod (a b : Int) : 0 ≤ orI .u64 a b ∧ orI .u64 a b ≤ 18446744073709551615 := by
 have h : ∀ n, IntKind.u64.wrap n = n % 18446744073709551616 := fun n => by simp [IntKind.wrap, IntKind.bits, IntKind.signed]
 unfold orI
 rw [h]
 omega
theorem zir : ∀ (xs : List Int) (k : Nat) (v : Int), (varR xs k v).2.1.length ≤ xs.length
 | [], k, v => Nat.le_refl _
 | x :: xs, k, v => by
  unfold varR
  split
  ·simp
  ·split
   ·simp
   ·have := zir xs (k + 1) (vstep v x k)
    simp; omega
theorem zhT : ∀ (xs : List Int) (k : Nat) (v : Int), 0 ≤ (varR xs k v).1 ∧ (varR xs k v).1 ≤ 18446744073709551615
 | [], k, v => by simp [varR]
 | x :: xs, k, v => by
  unfold varR
  split
  ·simp
  ·split
   ·exact zod _ _
   ·exact zhT xs (k + 1) (vstep v x k)
theorem zeE (xs : List Int) (bad : Bool) : (varV xs bad).2.1.length ≤ xs.length := by
 unfold varV
 split
 ·exact Nat.le_refl _
 ·exact zir xs 0 0
theorem zgV (xs : List Int) (bad : Bool) : 0 ≤ (varV xs bad).1 ∧ (varV xs bad).1 ≤ 18446744073709551615 := by
 unfold varV
 split
 ·simp
 ·exact zhT xs 0 0
end Sx
end
section
/- The image's readers: numbers, rows, frames, objects, handles. -/
set_option linter.unusedVariables false
set_option linter.unusedSimpArgs false
namespace Sx
open Go Go.Ab
abbrev Rd (A : Type) := Bool → List Int → Bool → A × Bool × List Int × Bool
structure RdOk {A : Type} (f : Rd A) : Prop where
 le : ∀ bad xs b, (f bad xs b).2.2.1.length ≤ xs.length
 st : ∀ bad xs, (f bad xs true).2.2.2 = true
def Eats {A : Type} (f : Rd A) : Prop := ∀ bad xs b, (f bad xs b).2.2.1.length < xs.length ∨ (f bad xs b).2.2.2 = true
theorem znq : ∀ (xs : List Int) (k : Nat) (v : Int), (varR xs k v).2.1.length < xs.length ∨ (varR xs k v).2.2 = true
 | [], k, v => .inr rfl
 | x :: xs, k, v => by
  unfold varR
  split
  ·exact .inr rfl
  ·split
   ·exact .inl (by simp)
   ·exact .inl (by have := zir xs (k + 1) (vstep v x k); simp; omega)
def numV : Rd Int := fun bad xs b => ((varV xs b).1, bad, (varV xs b).2)
theorem zjW : RdOk numV := ⟨fun bad xs b => zeE xs b, fun bad xs => by simp [numV, varV]⟩
theorem ziY : Eats numV := fun bad xs b => by
 unfold numV varV
 cases b with
 | true => exact .inr rfl
 | false => exact znq xs 0 0
def intV : Rd Int := fun bad xs b => if (varV xs b).1 > 2147483647 then (0, true, (varV xs b).2) else ((varV xs b).1, bad, (varV xs b).2)
theorem zfy (bad : Bool) (xs : List Int) (b : Bool) : (intV bad xs b).2.2 = (varV xs b).2 := by unfold intV; split <;> rfl
theorem zU : RdOk intV := ⟨fun bad xs b => by rw [zfy]; exact zeE xs b, fun bad xs => by rw [zfy]; simp [varV]⟩
theorem zfI : Eats intV := fun bad xs b => by rw [zfy]; exact ziY bad xs b
theorem zlP (bad : Bool) (xs : List Int) (b : Bool) : 0 ≤ (intV bad xs b).1 ∧ (intV bad xs b).1 ≤ 2147483647 := by
 have := zgV xs b
 unfold intV
 split
 ·simp
 ·exact ⟨this.1, by simp only; omega⟩
theorem zhA (n : Nat) (bad : Bool) (xs : List Int) (b : Bool) (hx : xs.length ≤ 4294967296) (hn : 20 ≤ n) : qn n bad xs b = some ((intV bad xs b).1, ((intV bad xs b).2.1, (intV bad xs b).2.2)) := by
 have hr := zgV xs b
 unfold qn intV
 rw [zlW n xs b hx hn, Option.bind_some]
 by_cases h : (varV xs b).1 > 2147483647
 ·rw [decide_eq_true h, if_pos h]; rfl
 ·rw [decide_eq_false h, if_neg h, cond_false, zkC (by omega) (by omega)]
theorem zaM (n : Nat) (bad : Bool) (xs : List Int) (b : Bool) : qp n bad xs b = some (bad || b, (bad, (xs, b))) := by
 cases bad <;> rfl
def wlist {A : Type} (one : Rd A) : Nat → List A → Rd (List A)
 | 0, acc, bad, xs, b => (acc, bad, xs, b)
 | j + 1, acc, bad, xs, b => if bad = true ∨ b = true then (acc, bad, xs, b) else wlist one j (acc ++ [(one bad xs b).1]) (one bad xs b).2.1 (one bad xs b).2.2.1 (one bad xs b).2.2.2
theorem zgh {A : Type} (one : Rd A) (j : Nat) (acc : List A) (bad : Bool) (xs : List Int) (b : Bool) (h : bad = true ∨ b = true) : wlist one j acc bad xs b = (acc, bad, xs, b) := by
 cases j with
 | zero => rfl
 | succ j => unfold wlist; rw [if_pos h]
theorem zgP {A : Type} {one : Rd A} (h : RdOk one) : ∀ (j : Nat) (acc : List A), RdOk (wlist one j acc)
 | 0, acc => ⟨fun bad xs b => Nat.le_refl _, fun bad xs => rfl⟩
 | j + 1, acc => ⟨fun bad xs b => by
   unfold wlist
   split
   ·exact Nat.le_refl _
   ·exact Nat.le_trans ((zgP h j _).le _ _ _) (h.le _ _ _), fun bad xs => by rw [zgh one (j + 1) acc bad xs true (.inr rfl)]⟩
theorem wloop {A S X : Type} {B : S → Option (S ⊕ X)} {mk : Nat → List A → Bool → List Int → Bool → S} {fin : List A × Bool × List Int × Bool → X} {one : Rd A} {M : Nat} (h1 : RdOk one) (h2 : Eats one)
  (hB : ∀ j acc bad xs b, j ≤ 2147483647 → acc.length + xs.length ≤ M → B (mk (j + 1) acc bad xs b) = if bad = true ∨ b = true then some (.inr (fin (acc, bad, xs, b))) else some (.inl (mk j (acc ++ [(one bad xs b).1]) (one bad xs b).2.1 (one bad xs b).2.2.1 (one bad xs b).2.2.2)))
  (hW : ∀ j acc bad xs b, j ≤ 2147483647 → (bad = true ∨ b = true) → B (mk (j + 1) acc bad xs b) = some (.inr (fin (acc, bad, xs, b))))
  (he : ∀ acc bad xs b, B (mk 0 acc bad xs b) = some (.inr (fin (acc, bad, xs, b)))) : ∀ (n j : Nat) (acc : List A) (bad : Bool) (xs : List Int) (b : Bool), j ≤ 2147483647 → (if bad = true ∨ b = true then 0 else xs.length + 1) < n → ((bad = true ∨ b = true) ∨ acc.length + xs.length ≤ M) →
  loopS B n (mk j acc bad xs b) = some (fin (wlist one j acc bad xs b))
 | 0, _, _, _, _, _, _, hn, _ => by omega
 | n + 1, 0, acc, bad, xs, b, hj, hn, hm => zy (he acc bad xs b)
 | n + 1, j + 1, acc, bad, xs, b, hj, hn, hm => by
  by_cases h : bad = true ∨ b = true
  ·rw [zgh one (j + 1) acc bad xs b h]
   exact zy (hW j acc bad xs b (by omega) h)
  ·have hm' := hm.resolve_left h
   have hb := hB j acc bad xs b (by omega) hm'
   rw [if_neg h] at hb hn
   unfold wlist
   rw [if_neg h, zM hb]
   have hle := h1.le bad xs b
   have hea := h2 bad xs b
   refine wloop h1 h2 hB hW he n j _ _ _ _ (by omega) ?_ ?_
   ·split
    ·omega
    ·rename_i h3
     rcases hea with h4 | h4
     ·omega
     ·exact absurd (.inr h4) h3
   ·rcases hea with h4 | h4
    ·exact .inr (by simp; omega)
    ·exact .inl (.inr h4)
def rowW {A : Type} (one : Rd A) : Rd (List A) := fun bad xs b => wlist one (intV bad xs b).1.toNat [] (intV bad xs b).2.1 (intV bad xs b).2.2.1 (intV bad xs b).2.2.2
theorem zjH {A : Type} {one : Rd A} (h : RdOk one) : RdOk (rowW one) := ⟨fun bad xs b => Nat.le_trans ((zgP h _ _).le _ _ _) (zU.le bad xs b), fun bad xs => by
 unfold rowW
 rw [zU.st bad xs]
 exact (zgP h _ _).st _ _⟩
theorem zeW {A X : Type} {B : (Int × Bool × (List Int × Bool) × List A) → Option ((Int × Bool × (List Int × Bool) × List A) ⊕ X)} {fin : List A × Bool × List Int × Bool → X} {one : Rd A} (h1 : RdOk one) (h2 : Eats one)
  (hP : ∀ (k : Int) acc xs, xs.length ≤ 1000000 → k > 0 → B (k, (false, ((xs, false), acc))) = bif Nat.ble (acc ++ [(one false xs false).1]).length 4294967296 then some (.inl (subI .i64 k 1, ((one false xs false).2.1, (((one false xs false).2.2.1, (one false xs false).2.2.2), acc ++ [(one false xs false).1])))) else none)
  (hW : ∀ (k : Int) acc bad xs b, k > 0 → (bad || b) = true → B (k, (bad, ((xs, b), acc))) = some (.inr (fin (acc, bad, xs, b))))
  (hE : ∀ acc bad xs b, B (0, (bad, ((xs, b), acc))) = some (.inr (fin (acc, bad, xs, b))))
  (n : Nat) (bad : Bool) (xs : List Int) (b : Bool) (hx : xs.length ≤ 1000000) (hn : 1000002 ≤ n) :
  loopS B n ((intV bad xs b).1, ((intV bad xs b).2.1, (((intV bad xs b).2.2.1, (intV bad xs b).2.2.2), []))) = some (fin (rowW one bad xs b)) := by
 have hr := zlP bad xs b
 have hl := zU.le bad xs b
 have hw : ∀ (j : Nat) acc bad xs b, j ≤ 2147483647 → (bad = true ∨ b = true) → B (((j + 1 : Nat) : Int), (bad, ((xs, b), acc))) = some (.inr (fin (acc, bad, xs, b))) := fun j acc bad xs b hj h =>
  hW _ acc bad xs b (by omega) (by rcases h with rfl | rfl <;> simp)
 have h := wloop (B := B) (mk := fun (j : Nat) acc bad xs b => ((j : Int), (bad, ((xs, b), acc)))) (fin := fin) (one := one) (M := 1000000) h1 h2 (fun j acc bad xs b hj hm => ?_) hw (fun acc bad xs b => hE acc bad xs b) n (intV bad xs b).1.toNat [] (intV bad xs b).2.1 (intV bad xs b).2.2.1 (intV bad xs b).2.2.2 (by omega) (by split <;> omega) (.inr (by simp; omega))
 ·rw [show (((intV bad xs b).1.toNat : Nat) : Int) = (intV bad xs b).1 by omega] at h
  exact h
 ·by_cases hb : bad = true ∨ b = true
  ·rw [if_pos hb]; exact hw j acc bad xs b hj hb
  ·rw [if_neg hb]
   obtain ⟨rfl, rfl⟩ : bad = false ∧ b = false := by cases bad <;> cases b <;> simp_all
   rw [hP _ acc xs (by omega) (by omega), zj (by simp; omega), cond_true, zif (by omega) (by omega), show ((j + 1 : Nat) : Int) - 1 = (j : Int) by omega]
end Sx
end
section
/- The image's readers, put together; what is read of an image. -/
set_option linter.unusedVariables false
set_option linter.unusedSimpArgs false
namespace Sx
open Go Go.Ab
abbrev FrD := Int × Int × List Int × List Int
abbrev HaD := Int × Int × Bool
def thenR {A B : Type} (f : Rd A) (g : A → Rd B) : Rd B := fun bad xs b => g (f bad xs b).1 (f bad xs b).2.1 (f bad xs b).2.2.1 (f bad xs b).2.2.2
def retR {A : Type} (a : A) : Rd A := fun bad xs b => (a, bad, xs, b)
theorem zmO {A : Type} (a : A) : RdOk (retR a) := ⟨fun _ _ _ => Nat.le_refl _, fun _ _ => rfl⟩
theorem zaf {A B : Type} {f : Rd A} {g : A → Rd B} (hf : RdOk f) (hg : ∀ a, RdOk (g a)) : RdOk (thenR f g) := ⟨fun bad xs b => Nat.le_trans ((hg _).le _ _ _) (hf.le _ _ _), fun bad xs => by
 unfold thenR
 rw [hf.st bad xs]
 exact (hg _).st _ _⟩
theorem zel {A B : Type} {f : Rd A} {g : A → Rd B} (hf : Eats f) (hg : ∀ a, RdOk (g a)) : Eats (thenR f g) := fun bad xs b => by
 rcases hf bad xs b with h | h
 ·exact .inl (Nat.lt_of_le_of_lt ((hg _).le _ _ _) h)
 ·exact .inr (by unfold thenR; rw [h]; exact (hg _).st _ _)
def takeR (k : Int) : Rd (List Int) := fun bad xs b => ((takeV k xs b).1, bad, (takeV k xs b).2)
theorem zoQ (k : Int) : RdOk (takeR k) := ⟨fun bad xs b => (zfA k xs b).1, fun bad xs => by simp [takeR, takeV]⟩
def frameR : Rd FrD := thenR intV fun a => thenR intV fun c => thenR (rowW numV) fun l => thenR (rowW numV) fun k => retR (a, c, l, k)
def objR : Rd FrD := thenR intV fun a => thenR intV fun c => thenR (rowW numV) fun l => thenR intV fun k => thenR (takeR k) fun t => retR (a, c, l, t)
def endR (a d o : Int) : Rd HaD := fun bad xs b => ((a, d, o == 1), bad || decide (o > 1), xs, b)
theorem zpL (a d o : Int) : RdOk (endR a d o) := ⟨fun _ _ _ => Nat.le_refl _, fun _ _ => rfl⟩
def hanR : Rd HaD := thenR intV fun a => thenR numV fun d => thenR intV fun o => endR a d o
theorem zeC : RdOk (rowW numV) := zjH zjW
theorem zid (a : Int) : RdOk (thenR intV fun c => thenR (rowW numV) fun l => thenR (rowW numV) fun k => retR ((a, c, l, k) : FrD)) := zaf zU fun _ => zaf zeC fun _ => zaf zeC fun _ => zmO _
theorem ziI : RdOk frameR := zaf zU zid
theorem zls : Eats frameR := zel zfI zid
theorem zkK (a : Int) : RdOk (thenR intV fun c => thenR (rowW numV) fun l => thenR intV fun k => thenR (takeR k) fun t => retR ((a, c, l, t) : FrD)) := zaf zU fun _ => zaf zeC fun _ => zaf zU fun _ => zaf (zoQ _) fun _ => zmO _
theorem zmG : RdOk objR := zaf zU zkK
theorem znw : Eats objR := zel zfI zkK
theorem zlC (a : Int) : RdOk (thenR numV fun d => thenR intV fun o => endR a d o) := zaf zjW fun _ => zaf zU fun _ => zpL _ _ _
theorem zpv : RdOk hanR := zaf zU zlC
theorem zny : Eats hanR := zel zfI zlC
abbrev out {A : Type} (q : A × Bool × List Int × Bool) : Option (A × Bool × List Int × Bool) := some (q.1, (q.2.1, (q.2.2.1, q.2.2.2)))
theorem zhw (n : Nat) (bad : Bool) (xs : List Int) (b : Bool) (hx : xs.length ≤ 1000000) (hn : 1000002 ≤ n) : qac n bad xs b = some (rowW numV bad xs b) := by
 unfold qac
 rw [zhA n bad xs b (by omega) (by omega), Option.bind_some]
 have h := zeW (B := fun s => qac_B0 n s.1 s.2.1 s.2.2.1.1 s.2.2.1.2 s.2.2.2) (fin := fun q => (q.2.1, ((q.2.2.1, q.2.2.2), q.1))) zjW ziY (fun k acc xs hx hk => by
   show qac_B0 n k false xs false acc = _
   unfold qac_B0
   rw [decide_eq_true hk, cond_true, zaM, Option.bind_some]
   simp only [Bool.or_self, Bool.not_false, cond_true]
   rw [zlW n xs false (by omega) (by omega), Option.bind_some]
   rfl) (fun k acc bad xs b hk hw => by
   show qac_B0 n k bad xs b acc = _
   unfold qac_B0
   rw [decide_eq_true hk, cond_true, zaM, Option.bind_some, hw]
   rfl) (fun acc bad xs b => rfl) n bad xs b hx hn
 have h' : qac_W0 n ((intV bad xs b).1, ((intV bad xs b).2.1, (((intV bad xs b).2.2.1, (intV bad xs b).2.2.2), []))) = _ := h
 show ((qac_W0 n ((intV bad xs b).1, ((intV bad xs b).2.1, (((intV bad xs b).2.2.1, (intV bad xs b).2.2.2), [])))).bind _) = _
 rw [h', Option.bind_some]
theorem zaY (n : Nat) (bad : Bool) (xs : List Int) (b : Bool) (hx : xs.length ≤ 1000000) (hn : 1000002 ≤ n) : qn n bad xs b = some (intV bad xs b) := zhA n bad xs b (by omega) (by omega)
theorem zmP (n : Nat) (xs : List Int) (b : Bool) (hx : xs.length ≤ 1000000) (hn : 1000002 ≤ n) : qan n xs b = some (varV xs b) := zlW n xs b (by omega) (by omega)
theorem zph (n : Nat) (bad : Bool) (xs : List Int) (b : Bool) (hx : xs.length ≤ 1000000) (hn : 1000002 ≤ n) : qq n bad xs b = some (frameR bad xs b) := by
 unfold qq
 have l1 := zU.le bad xs b
 have l2 := zU.le (intV bad xs b).2.1 (intV bad xs b).2.2.1 (intV bad xs b).2.2.2
 rw [zaY n bad xs b hx hn, Option.bind_some, zaY n _ _ _ (by omega) hn, Option.bind_some, zhw n _ _ _ (by omega) hn, Option.bind_some]
 have l3 := zeC.le (intV (intV bad xs b).2.1 (intV bad xs b).2.2.1 (intV bad xs b).2.2.2).2.1 (intV (intV bad xs b).2.1 (intV bad xs b).2.2.1 (intV bad xs b).2.2.2).2.2.1 (intV (intV bad xs b).2.1 (intV bad xs b).2.2.1 (intV bad xs b).2.2.2).2.2.2
 rw [zhw n _ _ _ (by omega) hn, Option.bind_some]
 rfl
theorem zpY (n : Nat) (bad : Bool) (xs : List Int) (b : Bool) (hx : xs.length ≤ 1000000) (hn : 1000002 ≤ n) : qar n bad xs b = some (objR bad xs b) := by
 unfold qar
 have l1 := zU.le bad xs b
 have l2 := zU.le (intV bad xs b).2.1 (intV bad xs b).2.2.1 (intV bad xs b).2.2.2
 rw [zaY n bad xs b hx hn, Option.bind_some, zaY n _ _ _ (by omega) hn, Option.bind_some, zhw n _ _ _ (by omega) hn, Option.bind_some]
 have l3 := zeC.le (intV (intV bad xs b).2.1 (intV bad xs b).2.2.1 (intV bad xs b).2.2.2).2.1 (intV (intV bad xs b).2.1 (intV bad xs b).2.2.1 (intV bad xs b).2.2.2).2.2.1 (intV (intV bad xs b).2.1 (intV bad xs b).2.2.1 (intV bad xs b).2.2.2).2.2.2
 rw [zaY n _ _ _ (by omega) hn, Option.bind_some]
 have l4 := zU.le (rowW numV (intV (intV bad xs b).2.1 (intV bad xs b).2.2.1 (intV bad xs b).2.2.2).2.1 (intV (intV bad xs b).2.1 (intV bad xs b).2.2.1 (intV bad xs b).2.2.2).2.2.1 (intV (intV bad xs b).2.1 (intV bad xs b).2.2.1 (intV bad xs b).2.2.2).2.2.2).2.1
  (rowW numV (intV (intV bad xs b).2.1 (intV bad xs b).2.2.1 (intV bad xs b).2.2.2).2.1 (intV (intV bad xs b).2.1 (intV bad xs b).2.2.1 (intV bad xs b).2.2.2).2.2.1 (intV (intV bad xs b).2.1 (intV bad xs b).2.2.1 (intV bad xs b).2.2.2).2.2.2).2.2.1
  (rowW numV (intV (intV bad xs b).2.1 (intV bad xs b).2.2.1 (intV bad xs b).2.2.2).2.1 (intV (intV bad xs b).2.1 (intV bad xs b).2.2.1 (intV bad xs b).2.2.2).2.2.1 (intV (intV bad xs b).2.1 (intV bad xs b).2.2.1 (intV bad xs b).2.2.2).2.2.2).2.2.2
 rw [zds n _ _ _ (by omega), Option.bind_some]
 rfl
theorem zqa (n : Nat) (bad : Bool) (xs : List Int) (b : Bool) (hx : xs.length ≤ 1000000) (hn : 1000002 ≤ n) : qap n bad xs b = some (hanR bad xs b) := by
 unfold qap
 have l1 := zU.le bad xs b
 have l2 := zeE (intV bad xs b).2.2.1 (intV bad xs b).2.2.2
 rw [zaY n bad xs b hx hn, Option.bind_some, zmP n _ _ (by omega) hn, Option.bind_some, zaY n _ _ _ (by omega) hn, Option.bind_some]
 show _ = some (endR (intV bad xs b).1 (varV (intV bad xs b).2.2.1 (intV bad xs b).2.2.2).1 (intV (intV bad xs b).2.1 (varV (intV bad xs b).2.2.1 (intV bad xs b).2.2.2).2.1 (varV (intV bad xs b).2.2.1 (intV bad xs b).2.2.2).2.2).1
  (intV (intV bad xs b).2.1 (varV (intV bad xs b).2.2.1 (intV bad xs b).2.2.2).2.1 (varV (intV bad xs b).2.2.1 (intV bad xs b).2.2.2).2.2).2.1 (intV (intV bad xs b).2.1 (varV (intV bad xs b).2.2.1 (intV bad xs b).2.2.2).2.1 (varV (intV bad xs b).2.2.1 (intV bad xs b).2.2.2).2.2).2.2.1
  (intV (intV bad xs b).2.1 (varV (intV bad xs b).2.2.1 (intV bad xs b).2.2.2).2.1 (varV (intV bad xs b).2.2.1 (intV bad xs b).2.2.2).2.2).2.2.2)
 generalize intV (intV bad xs b).2.1 (varV (intV bad xs b).2.2.1 (intV bad xs b).2.2.2).2.1 (varV (intV bad xs b).2.2.1 (intV bad xs b).2.2.2).2.2 = q
 unfold endR
 cases q.2.1 <;> rfl
theorem zow (n : Nat) (bad : Bool) (xs : List Int) (b : Bool) (hx : xs.length ≤ 1000000) (hn : 1000002 ≤ n) : ql n bad xs b = some (rowW frameR bad xs b) := by
 unfold ql
 rw [zhA n bad xs b (by omega) (by omega), Option.bind_some]
 have h := zeW (B := fun s => ql_B0 n s.1 s.2.1 s.2.2.1.1 s.2.2.1.2 s.2.2.2) (fin := fun q => (q.2.1, ((q.2.2.1, q.2.2.2), q.1))) ziI zls (fun k acc xs hx hk => by
   show ql_B0 n k false xs false acc = _
   unfold ql_B0
   rw [decide_eq_true hk, cond_true, zaM, Option.bind_some]
   simp only [Bool.or_self, Bool.not_false, cond_true]
   rw [zph n false xs false hx hn, Option.bind_some]) (fun k acc bad xs b hk hw => by
   show ql_B0 n k bad xs b acc = _
   unfold ql_B0
   rw [decide_eq_true hk, cond_true, zaM, Option.bind_some, hw]
   rfl) (fun acc bad xs b => rfl) n bad xs b hx hn
 have h' : ql_W0 n ((intV bad xs b).1, ((intV bad xs b).2.1, (((intV bad xs b).2.2.1, (intV bad xs b).2.2.2), []))) = _ := h
 show ((ql_W0 n ((intV bad xs b).1, ((intV bad xs b).2.1, (((intV bad xs b).2.2.1, (intV bad xs b).2.2.2), [])))).bind _) = _
 rw [h', Option.bind_some]
theorem zoI (n : Nat) (bad : Bool) (xs : List Int) (b : Bool) (hx : xs.length ≤ 1000000) (hn : 1000002 ≤ n) : qad n bad xs b = some (rowW objR bad xs b) := by
 unfold qad
 rw [zhA n bad xs b (by omega) (by omega), Option.bind_some]
 have h := zeW (B := fun s => qad_B0 n s.1 s.2.1 s.2.2.1.1 s.2.2.1.2 s.2.2.2) (fin := fun q => (q.2.1, ((q.2.2.1, q.2.2.2), q.1))) zmG znw (fun k acc xs hx hk => by
   show qad_B0 n k false xs false acc = _
   unfold qad_B0
   rw [decide_eq_true hk, cond_true, zaM, Option.bind_some]
   simp only [Bool.or_self, Bool.not_false, cond_true]
   rw [zpY n false xs false hx hn, Option.bind_some]) (fun k acc bad xs b hk hw => by
   show qad_B0 n k bad xs b acc = _
   unfold qad_B0
   rw [decide_eq_true hk, cond_true, zaM, Option.bind_some, hw]
   rfl) (fun acc bad xs b => rfl) n bad xs b hx hn
 have h' : qad_W0 n ((intV bad xs b).1, ((intV bad xs b).2.1, (((intV bad xs b).2.2.1, (intV bad xs b).2.2.2), []))) = _ := h
 show ((qad_W0 n ((intV bad xs b).1, ((intV bad xs b).2.1, (((intV bad xs b).2.2.1, (intV bad xs b).2.2.2), [])))).bind _) = _
 rw [h', Option.bind_some]
theorem zoR (n : Nat) (bad : Bool) (xs : List Int) (b : Bool) (hx : xs.length ≤ 1000000) (hn : 1000002 ≤ n) : qa n bad xs b = some (rowW hanR bad xs b) := by
 unfold qa
 rw [zhA n bad xs b (by omega) (by omega), Option.bind_some]
 have h := zeW (B := fun s => qa_B0 n s.1 s.2.1 s.2.2.1.1 s.2.2.1.2 s.2.2.2) (fin := fun q => (q.2.1, ((q.2.2.1, q.2.2.2), q.1))) zpv zny (fun k acc xs hx hk => by
   show qa_B0 n k false xs false acc = _
   unfold qa_B0
   rw [decide_eq_true hk, cond_true, zaM, Option.bind_some]
   simp only [Bool.or_self, Bool.not_false, cond_true]
   rw [zqa n false xs false hx hn, Option.bind_some]) (fun k acc bad xs b hk hw => by
   show qa_B0 n k bad xs b acc = _
   unfold qa_B0
   rw [decide_eq_true hk, cond_true, zaM, Option.bind_some, hw]
   rfl) (fun acc bad xs b => rfl) n bad xs b hx hn
 have h' : qa_W0 n ((intV bad xs b).1, ((intV bad xs b).2.1, (((intV bad xs b).2.2.1, (intV bad xs b).2.2.2), []))) = _ := h
 show ((qa_W0 n ((intV bad xs b).1, ((intV bad xs b).2.1, (((intV bad xs b).2.2.1, (intV bad xs b).2.2.2), [])))).bind _) = _
 rw [h', Option.bind_some]
abbrev StD := List FrD × List FrD × List HaD × Int × Int × Int × Int
def emptySt : StD := ([], [], [], 0, 0, 0, 0)
def stR : Rd StD := thenR intV fun e => thenR intV fun q => thenR intV fun u => thenR numV fun v => thenR (rowW frameR) fun f => thenR (rowW objR) fun o => thenR (rowW hanR) fun h => retR (f, o, h, q, u, e, v)
noncomputable def bodyV (xs : List Int) : StD × Int × Int :=
 if (fixV (takeV 1 xs false).1 ≠ 2) ∨ (takeV 1 xs false).2.2 = true then (emptySt, 0, 2)
 else if (takeV 4 (takeV 1 xs false).2.1 false).2.2 = true then (emptySt, 0, 2)
 else if (stR false (takeV 4 (takeV 1 xs false).2.1 false).2.1 false).2.1 = true ∨ (stR false (takeV 4 (takeV 1 xs false).2.1 false).2.1 false).2.2.2 = true ∨ (stR false (takeV 4 (takeV 1 xs false).2.1 false).2.1 false).2.2.1.length > 0 then (emptySt, 0, 2)
 else ((stR false (takeV 4 (takeV 1 xs false).2.1 false).2.1 false).1, cvtI .u32 (fixV (takeV 4 (takeV 1 xs false).2.1 false).1), 0)
noncomputable def decV (b : List Int) : StD × Int × Int := if b.length > 65536 then (emptySt, 0, 2) else if (openV b).2 ≠ 0 then (emptySt, 0, (openV b).2) else bodyV (openV b).1
end Sx
end
section
/- What image.Decode answers. -/
set_option linter.unusedVariables false
set_option linter.unusedSimpArgs false
namespace Sx
open Go Go.Ab
theorem zjk (n : Nat) (xs : List Int) (b : Bool) (hx : xs.length ≤ 1000000) : qai n 1 xs b = some (fixV (takeV 1 xs b).1, (takeV 1 xs b).2) := by
 unfold qai
 rw [show minI (maxI 1 0) 8 = 1 from by decide, zds n 1 xs b (by omega), Option.bind_some]
theorem znQ (n : Nat) (xs : List Int) (b : Bool) (hx : xs.length ≤ 1000000) : qai n 4 xs b = some (fixV (takeV 4 xs b).1, (takeV 4 xs b).2) := by
 unfold qai
 rw [show minI (maxI 4 0) 8 = 4 from by decide, zds n 4 xs b (by omega), Option.bind_some]
theorem znS (b : List Int) : (openV b).1.length ≤ b.length := by
 unfold openV
 split
 ·simp
 ·split
  ·simp
  ·simp
theorem zqk (n : Nat) (xs : List Int) (hx : xs.length ≤ 1000000) (hn : 1000002 ≤ n) {R : Type} (k : StD × Bool × List Int × Bool → Option R) :
  ((qn n Bool.false xs false).bind fun r244 => (qn n r244.2.1 r244.2.2.1 r244.2.2.2).bind fun r245 => (qn n r245.2.1 r245.2.2.1 r245.2.2.2).bind fun r246 => (qan n r246.2.2.1 r246.2.2.2).bind fun r247 =>
   (ql n r246.2.1 r247.2.1 r247.2.2).bind fun r248 => (qad n r248.2.1 r248.2.2.1 r248.2.2.2).bind fun r249 => (qa n r249.2.1 r249.2.2.1 r249.2.2.2).bind fun r250 =>
   k ((r248.1, r249.1, r250.1, r245.1, r246.1, r244.1, r247.1), r250.2.1, r250.2.2.1, r250.2.2.2)) = k (stR false xs false) := by
 have hq : ∀ bad ys b, ys.length ≤ 1000000 → (intV bad ys b).2.2.1.length ≤ 1000000 := fun bad ys b h => Nat.le_trans (zU.le bad ys b) h
 rw [zaY n _ _ _ hx hn, Option.bind_some]
 have h1 := hq false xs false hx
 generalize hq1 : intV false xs false = q1 at h1 ⊢
 rw [zaY n _ _ _ h1 hn, Option.bind_some]
 have h2 := hq q1.2.1 q1.2.2.1 q1.2.2.2 h1
 generalize hq2 : intV q1.2.1 q1.2.2.1 q1.2.2.2 = q2 at h2 ⊢
 rw [zaY n _ _ _ h2 hn, Option.bind_some]
 have h3 := hq q2.2.1 q2.2.2.1 q2.2.2.2 h2
 generalize hq3 : intV q2.2.1 q2.2.2.1 q2.2.2.2 = q3 at h3 ⊢
 rw [zmP n _ _ h3 hn, Option.bind_some]
 have h4 : (varV q3.2.2.1 q3.2.2.2).2.1.length ≤ 1000000 := Nat.le_trans (zeE _ _) h3
 generalize hq4 : varV q3.2.2.1 q3.2.2.2 = q4 at h4 ⊢
 rw [zow n _ _ _ h4 hn, Option.bind_some]
 have h5 := Nat.le_trans ((zjH ziI).le q3.2.1 q4.2.1 q4.2.2) h4
 generalize hq5 : rowW frameR q3.2.1 q4.2.1 q4.2.2 = q5 at h5 ⊢
 rw [zoI n _ _ _ h5 hn, Option.bind_some]
 have h6 := Nat.le_trans ((zjH zmG).le q5.2.1 q5.2.2.1 q5.2.2.2) h5
 generalize hq6 : rowW objR q5.2.1 q5.2.2.1 q5.2.2.2 = q6 at h6 ⊢
 rw [zoR n _ _ _ h6 hn, Option.bind_some]
 have : stR false xs false = (((q5.1, q6.1, (rowW hanR q6.2.1 q6.2.2.1 q6.2.2.2).1, q2.1, q3.1, q1.1, q4.1) : StD), (rowW hanR q6.2.1 q6.2.2.1 q6.2.2.2).2.1, (rowW hanR q6.2.1 q6.2.2.1 q6.2.2.2).2.2.1, (rowW hanR q6.2.1 q6.2.2.1 q6.2.2.2).2.2.2) := by
  unfold stR thenR
  simp only [hq1, hq2, hq3, show ∀ bad ys b, numV bad ys b = ((varV ys b).1, bad, (varV ys b).2) from fun _ _ _ => rfl, hq4, hq5, hq6]
  rfl
 rw [this]
theorem ziL (n : Nat) (b : List Int) (hb : IsBytes b) (hn : 2000000 ≤ n) (hl : b.length ≤ 4294967000) : qbi n b = some (decV b) := by
 unfold qbi qbj decV
 rw [zd]
 by_cases h1 : b.length > 65536
 ·rw [decide_eq_true (by omega), if_pos h1]; rfl
 ·rw [decide_eq_false (by omega), cond_false, if_neg h1, zjQ n b hb (by omega) (by omega), Option.bind_some]
  by_cases h2 : (openV b).2 = 0
  ·rw [if_neg (fun h => h h2), show ((openV b).2 != 0) = false from by rw [h2]; rfl, cond_false]
   have hol := znS b
   generalize (openV b).1 = xs at hol
   unfold qbc bodyV
   rw [zj (by omega), cond_true, Option.bind_some]
   simp only
   rw [zjk n xs false (by omega), Option.bind_some]
   simp only
   rw [show cvtI .u64 2 = 2 from by decide]
   by_cases h3 : fixV (takeV 1 xs false).1 ≠ 2
   ·rw [if_pos (.inl h3), bne_iff_ne.2 h3]; rfl
   ·rw [show (fixV (takeV 1 xs false).1 != 2) = false from by rw [Decidable.not_not.1 h3]; rfl, cond_false]
    simp only [qbg, Option.bind_some]
    have hl1 := (zfA 1 xs false).1
    cases h4 : (takeV 1 xs false).2.2 with
    | true => rw [if_pos (.inr rfl)]; rfl
    | false =>
     rw [if_neg (by simp; exact Decidable.not_not.1 h3), cond_false, znQ n _ _ (by omega), Option.bind_some]
     simp only
     have hl2 := (zfA 4 (takeV 1 xs false).2.1 false).1
     cases h5 : (takeV 4 (takeV 1 xs false).2.1 false).2.2 with
     | true => rfl
     | false =>
      rw [cond_false, Option.bind_some, if_neg (by simp)]
      simp only
      rw [show ((0 : Int) != 0) = false from rfl, cond_false]
      have h := zqk (R := StD × Int × Int) n (takeV 4 (takeV 1 xs false).2.1 false).2.1 (by omega) (by omega) (fun q => (qp n q.2.1 q.2.2.1 q.2.2.2).bind fun r251 =>
       bif r251.1 then some (emptySt, (0, 2)) else (qaw n r251.2.2.1 r251.2.2.2).bind fun r252 => bif (decide (r252.1 > 0)) then some (emptySt, (0, 2)) else some (q.1, (cvtI .u32 (fixV (takeV 4 (takeV 1 xs false).2.1 false).1), 0)))
      refine h.trans ?_
      generalize stR false (takeV 4 (takeV 1 xs false).2.1 false).2.1 false = q
      rw [zaM, Option.bind_some]
      cases h6 : q.2.1 with
      | true => rw [if_pos (.inl rfl)]; rfl
      | false =>
       cases h7 : q.2.2.2 with
       | true => rw [if_pos (.inr (.inl rfl))]; rfl
       | false =>
        have hL : qaw n q.2.2.1 false = some (lenI q.2.2.1, (q.2.2.1, false)) := rfl
        simp only [Bool.or_self, cond_false]
        rw [hL, Option.bind_some, zd]
        by_cases h8 : q.2.2.1.length > 0
        ·rw [if_pos (.inr (.inr h8)), decide_eq_true (by omega)]; rfl
        ·rw [if_neg (by simp; simpa using h8), decide_eq_false (by omega)]; rfl
  ·rw [if_pos h2, bne_iff_ne.2 h2]
   show (bif ((openV b).2 != 0) then _ else _) = _
   rw [bne_iff_ne.2 h2]; rfl
end Sx
end
section
/- What is sealed, and begins otherwise, is no image. -/
set_option linter.unusedVariables false
set_option linter.unusedSimpArgs false
namespace Sx
open Go Go.Ab
theorem answers20 (n : Nat) (hn : 100 ≤ n) : qbh n = some true := by
 obtain ⟨m, rfl⟩ : ∃ m, n = m + 100 := ⟨n - 100, by omega⟩
 kernel_rfl
theorem u64wrap (n : Int) : IntKind.u64.wrap n = n % 18446744073709551616 := by simp [IntKind.wrap, IntKind.bits, IntKind.signed]
theorem zmN (a b : Nat) (ha : a < 18446744073709551616) (hb : b < 18446744073709551616) : orI .u64 (a : Int) (b : Int) = ((a ||| b : Nat) : Int) := by
 unfold orI
 rw [u64wrap]
 have : (BitVec.ofInt IntKind.u64.bits (a : Int) ||| BitVec.ofInt IntKind.u64.bits (b : Int)).toNat = a ||| b := by
  rw [BitVec.toNat_or]
  show (BitVec.ofInt 64 (a : Int)).toNat ||| (BitVec.ofInt 64 (b : Int)).toNat = _
  rw [BitVec.ofInt_natCast, BitVec.ofInt_natCast, BitVec.toNat_ofNat, BitVec.toNat_ofNat, Nat.mod_eq_of_lt ha, Nat.mod_eq_of_lt hb]
 rw [this]
 have h : a ||| b < 18446744073709551616 := Nat.or_lt_two_pow (n := 64) ha hb
 omega
theorem zeD (v x : Nat) (hv : v < 281474976710656) (hx : x < 256) : orI .u64 (IntKind.u64.wrap ((v : Int) * 256)) (IntKind.u64.wrap (x : Int)) = ((v * 256 + x : Nat) : Int) := by
 rw [u64wrap, u64wrap]
 have e1 : ((v : Int) * 256) % 18446744073709551616 = ((v * 256 : Nat) : Int) := by omega
 have e2 : ((x : Int)) % 18446744073709551616 = ((x : Nat) : Int) := by omega
 rw [e1, e2, zmN _ _ (by omega) (by omega)]
 have h := Nat.shiftLeft_add_eq_or_of_lt (show x < 2 ^ 8 by omega) v
 rw [Nat.shiftLeft_eq] at h
 have h256 : (2 : Nat) ^ 8 = 256 := by decide
 rw [h256] at h
 rw [← h]
theorem zdB (x : Int) (l : List Int) : fixV (x :: l) = orI .u64 (IntKind.u64.wrap (fixV l * 256)) (IntKind.u64.wrap x) := rfl
theorem fix1 {x : Int} (h : 0 ≤ x ∧ x ≤ 255) : fixV [x] = x := by
 obtain ⟨k, rfl⟩ := Int.eq_ofNat_of_zero_le h.1
 have := zeD 0 k (by omega) (by omega)
 rw [zdB, show fixV [] = ((0 : Nat) : Int) from rfl, this]
 omega
theorem fix4 {a b c d : Int} (ha : 0 ≤ a ∧ a ≤ 255) (hb : 0 ≤ b ∧ b ≤ 255) (hc : 0 ≤ c ∧ c ≤ 255) (hd : 0 ≤ d ∧ d ≤ 255) : fixV [a, b, c, d] = a + 256 * b + 65536 * c + 16777216 * d := by
 obtain ⟨a, rfl⟩ := Int.eq_ofNat_of_zero_le ha.1
 obtain ⟨b, rfl⟩ := Int.eq_ofNat_of_zero_le hb.1
 obtain ⟨c, rfl⟩ := Int.eq_ofNat_of_zero_le hc.1
 obtain ⟨d, rfl⟩ := Int.eq_ofNat_of_zero_le hd.1
 rw [zdB, zdB, zdB, fix1 hd, zeD d c (by omega) (by omega), zeD (d * 256 + c) b (by omega) (by omega), zeD ((d * 256 + c) * 256 + b) a (by omega) (by omega)]
 omega
theorem zfd {k : Nat} {xs : List Int} (h : k ≤ xs.length) : takeV (k : Int) xs false = (xs.take k, xs.drop k, false) := by
 unfold takeV
 rw [if_neg (by rintro (h' | h' | h') <;> first | cases h' | omega), Int.toNat_natCast]
end Sx
end
section
/- The reference's image: its bytes. -/
set_option linter.unusedVariables false
set_option linter.unusedSimpArgs false
namespace Sx
open Go Go.Ab
def u64 (v : Int) : Prop := 0 ≤ v ∧ v ≤ 18446744073709551615
def numB (old : Bool) (v : Int) : List Int := bif old then fixN 8 v.toNat else varN v.toNat
def numsB (old : Bool) (l : List Int) : List Int := l.flatMap (numB old)
def rowB (old : Bool) (l : List Int) : List Int := numsB old ((l.length : Int) :: l)
def n0 (v : Int) : Int := if v < 0 then 0 else v
def frB (old : Bool) (f : FrD) : List Int := numsB old [n0 f.1, n0 f.2.1] ++ rowB old f.2.2.1 ++ rowB old f.2.2.2
def obB (old : Bool) (o : FrD) : List Int := numsB old [n0 o.1, n0 o.2.1] ++ rowB old o.2.2.1 ++ numsB old [(o.2.2.2.length : Int)] ++ o.2.2.2
def haB (old : Bool) (h : HaD) : List Int := numsB old [n0 h.1, h.2.1, bif h.2.2 then 1 else 0]
theorem zlV (k v : Nat) : IsBytes (fixN k v) := fun x hx => by
 unfold fixN at hx
 obtain ⟨i, _, rfl⟩ := List.mem_map.1 hx
 omega
theorem zx (old : Bool) (v : Int) : (numB old v).length ≤ 11 := by
 unfold numB
 cases old with
 | true => rw [cond_true, zoF]; omega
 | false => exact (zlg _).2
theorem zmp (old : Bool) {v : Int} (h : u64 v) : IsBytes (numB old v) := by
 have := h.1; have := h.2
 unfold numB
 cases old with
 | true => exact zlV _ _
 | false => exact zmj (by omega)
theorem zS (old : Bool) (l : List Int) : (numsB old l).length ≤ 11 * l.length := zZ _ 11 l fun x _ => zx old x
theorem zV (old : Bool) {l : List Int} (h : ∀ v ∈ l, u64 v) : IsBytes (numsB old l) := fun x hx => by
 obtain ⟨v, hv, hx⟩ := List.mem_flatMap.1 hx
 exact zmp old (h v hv) x hx
theorem app_bytes {a b : List Int} (ha : IsBytes a) (hb : IsBytes b) : IsBytes (a ++ b) := fun x hx => (List.mem_append.1 hx).elim (ha x) (hb x)
theorem zaj (n : Nat) (old : Bool) (l : List Int) (hl : ∀ v ∈ l, u64 v) (h : l.length ≤ 100000) (hn : 200000 ≤ n) : qbu n old l = some (numsB old l) := by
 have h := zN (B := fun s => qbu_B0 n s.1.1 s.1.2.1 s.1.2.2 s.2) (xs := l) (mk := fun i a => ((old, (l, (i : Int))), a)) (f := numB old) (e := fun a => a) (c := 11) (m0 := []) (cap := 2000000) (fun x _ => zx old x) (by simp; omega) (fun i a x hx hm ha => ?_) (fun a => ?_) (n := n) (by omega)
 ·unfold qbu
  rw [show qbu_W0 n ((old, (l, 0)), []) = _ from h]
  rfl
 ·have hi := zw hx
  have hu := hl x hm
  obtain ⟨v, rfl⟩ := Int.eq_ofNat_of_zero_le hu.1
  have hv : v < 18446744073709551616 := by have := hu.2; omega
  show qbu_B0 n old l (i : Int) a = _
  unfold qbu_B0
  rw [zd, decide_eq_true (by omega), cond_true, zr, hx, Option.bind_some, Option.bind_some, zt (by omega)]
  cases old with
  | true =>
   have e : numB true (v : Int) = fixN 8 v := rfl
   rw [e] at ha ⊢
   rw [cond_true, zjD n v hv (by omega), Option.bind_some, zj (by rw [List.length_append]; omega)]
   rfl
  | false =>
   have e : numB false (v : Int) = varN v := rfl
   rw [e] at ha ⊢
   rw [cond_false, znp n v hv (by omega), Option.bind_some, zj (by rw [List.length_append]; omega)]
   rfl
 ·show qbu_B0 n old l (l.length : Int) a = _
  unfold qbu_B0
  rw [zd, decide_eq_false (by omega), cond_false]
theorem zjX (n : Nat) (old : Bool) (l : List Int) (hl : ∀ v ∈ l, u64 v) (h : l.length ≤ 90000) (hn : 200000 ≤ n) : qbx n old l = some (rowB old l) := by
 unfold qbx rowB
 rw [zbN l (by omega), zj (by simp; omega), cond_true]
 rw [show (([((l.length : Nat) : Int)] : List Int) ++ l) = ((l.length : Nat) : Int) :: l from rfl, zaj n old _ (fun v hv => by
  rcases List.mem_cons.1 hv with rfl | hv
  ·exact ⟨by omega, by omega⟩
  ·exact hl v hv) (by simp; omega) hn]
 rfl
theorem zn (n : Nat) (v : Int) (h1 : -9223372036854775808 ≤ v) (h2 : v ≤ 9223372036854775807) : qbm n v = some (n0 v) ∧ u64 (n0 v) := by
 unfold qbm n0 u64
 by_cases h : v < 0
 ·rw [decide_eq_true h, if_pos h]; exact ⟨rfl, by omega⟩
 ·rw [decide_eq_false h, if_neg h, cond_false, zaJ (by omega) (by omega)]; exact ⟨rfl, by omega⟩
def i64 (v : Int) : Prop := -9223372036854775808 ≤ v ∧ v ≤ 9223372036854775807
structure OkF (f : FrD) : Prop where
 a : i64 f.1
 b : i64 f.2.1
 l : ∀ v ∈ f.2.2.1, u64 v
 k : ∀ v ∈ f.2.2.2, u64 v
structure OkO (f : FrD) : Prop where
 a : i64 f.1
 b : i64 f.2.1
 l : ∀ v ∈ f.2.2.1, u64 v
 k : IsBytes f.2.2.2
structure OkH (h : HaD) : Prop where
 a : i64 h.1
 d : u64 h.2.1
structure OkS (s : StD) : Prop where
 f : ∀ x ∈ s.1, OkF x
 o : ∀ x ∈ s.2.1, OkO x
 h : ∀ x ∈ s.2.2.1, OkH x
 q : i64 s.2.2.2.1
 u : i64 s.2.2.2.2.1
 e : i64 s.2.2.2.2.2.1
 v : u64 s.2.2.2.2.2.2
structure SmallS (s : StD) : Prop where
 n : s.1.length + s.2.1.length + s.2.2.1.length ≤ 300
 f : ∀ x ∈ s.1, x.2.2.1.length ≤ 3000 ∧ x.2.2.2.length ≤ 3000
 o : ∀ x ∈ s.2.1, x.2.2.1.length ≤ 3000 ∧ x.2.2.2.length ≤ 3000
theorem zgE {a b : Int} (ha : u64 a) (hb : u64 b) : ∀ v ∈ [a, b], u64 v := fun v hv => by
 rcases List.mem_cons.1 hv with rfl | hv
 ·exact ha
 ·rw [List.mem_singleton.1 hv]; exact hb
theorem zjE {l : List Int} (hl : ∀ v ∈ l, u64 v) (h : l.length ≤ 90000) : ∀ v ∈ (l.length : Int) :: l, u64 v := fun v hv => by
 rcases List.mem_cons.1 hv with rfl | hv
 ·exact ⟨by omega, by omega⟩
 ·exact hl v hv
theorem zcF (old : Bool) (f : FrD) (h : f.2.2.1.length ≤ 3000 ∧ f.2.2.2.length ≤ 3000) : (frB old f).length ≤ 100000 := by
 have h1 := zS old [n0 f.1, n0 f.2.1]
 have h2 := zS old ((f.2.2.1.length : Int) :: f.2.2.1)
 have h3 := zS old ((f.2.2.2.length : Int) :: f.2.2.2)
 simp only [List.length_cons, List.length_nil] at h1 h2 h3
 unfold frB rowB
 simp only [List.length_append]
 omega
theorem zcB (old : Bool) (f : FrD) (h : f.2.2.1.length ≤ 3000 ∧ f.2.2.2.length ≤ 3000) : (obB old f).length ≤ 100000 := by
 have h1 := zS old [n0 f.1, n0 f.2.1]
 have h2 := zS old ((f.2.2.1.length : Int) :: f.2.2.1)
 have h3 := zS old [(f.2.2.2.length : Int)]
 simp only [List.length_cons, List.length_nil] at h1 h2 h3
 unfold obB rowB
 simp only [List.length_append]
 omega
theorem zeQ (old : Bool) (h : HaD) : (haB old h).length ≤ 100000 := by
 have h1 := zS old [n0 h.1, h.2.1, bif h.2.2 then 1 else 0]
 simp only [List.length_cons, List.length_nil] at h1
 unfold haB
 omega
theorem znI (old : Bool) {f : FrD} (h : OkF f) (hs : f.2.2.1.length ≤ 3000 ∧ f.2.2.2.length ≤ 3000) : IsBytes (frB old f) :=
 app_bytes (app_bytes (zV old (zgE (zn 0 _ h.a.1 h.a.2).2 (zn 0 _ h.b.1 h.b.2).2)) (zV old (zjE h.l (by omega)))) (zV old (zjE h.k (by omega)))
theorem znx (old : Bool) {f : FrD} (h : OkO f) (hs : f.2.2.1.length ≤ 3000 ∧ f.2.2.2.length ≤ 3000) : IsBytes (obB old f) :=
 app_bytes (app_bytes (app_bytes (zV old (zgE (zn 0 _ h.a.1 h.a.2).2 (zn 0 _ h.b.1 h.b.2).2)) (zV old (zjE h.l (by omega)))) (zV old fun v hv => by rw [List.mem_singleton.1 hv]; exact ⟨by omega, by omega⟩)) h.k
theorem zmT {h : HaD} (hh : OkH h) : ∀ v ∈ [n0 h.1, h.2.1, bif h.2.2 then 1 else 0], u64 v := fun v hv => by
 rcases List.mem_cons.1 hv with rfl | hv
 ·exact (zn 0 _ hh.a.1 hh.a.2).2
 ·rcases List.mem_cons.1 hv with rfl | hv
  ·exact hh.d
  ·rw [List.mem_singleton.1 hv]; cases h.2.2 <;> (unfold u64; simp)
theorem znt (old : Bool) {h : HaD} (hh : OkH h) : IsBytes (haB old h) := zV old (zmT hh)
end Sx
end
section
/- The reference's image: what it comes to. -/
set_option linter.unusedVariables false
set_option linter.unusedSimpArgs false
namespace Sx
open Go Go.Ab
theorem zok (n : Nat) (old : Bool) (s : StD) (ho : OkS s) (hs : SmallS s) (m1 m3 m4 : List Int) (hn : 200000 ≤ n) :
  qbp_W0 n ((old, 0), (s, (m1, ([], (m3, m4))))) = some (old, (s, (m1, ((s.1).flatMap (frB old), (m3, m4))))) := by
 have h := zN (B := fun s => qbp_B0 n s.1.1 s.1.2 s.2.1.1 s.2.1.2.1 s.2.1.2.2.1 s.2.1.2.2.2.1 s.2.1.2.2.2.2.1 s.2.1.2.2.2.2.2.1 s.2.1.2.2.2.2.2.2 s.2.2.1 s.2.2.2.1 s.2.2.2.2.1 s.2.2.2.2.2) (xs := s.1) (mk := fun i a => ((old, (i : Int)), (s, (m1, (a, (m3, m4)))))) (f := frB old)
  (e := fun a => (old, (s, (m1, (a, (m3, m4)))))) (c := 100000) (m0 := []) (cap := 40000000) (fun x hm => zcF old x (hs.f x hm)) (by have := hs.n; simp; omega) (fun i a x hx hm ha => ?_) (fun a => ?_) (n := n) (by have := hs.n; omega)
 ·exact h
 ·have hi := zw hx
  have hn3 := hs.n
  have hxo := ho.f x hm
  have hsx := hs.f x hm
  show qbp_B0 n old (i : Int) s.1 s.2.1 s.2.2.1 s.2.2.2.1 s.2.2.2.2.1 s.2.2.2.2.2.1 s.2.2.2.2.2.2 m1 a m3 m4 = _
  have l0 := zcF old x hsx
  unfold frB at ha l0 ⊢
  simp only [List.length_append] at ha l0
  unfold qbp_B0
  rw [zd, decide_eq_true (by omega), cond_true, zr, hx, Option.bind_some, (zn n _ hxo.a.1 hxo.a.2).1, Option.bind_some, (zn n _ hxo.b.1 hxo.b.2).1, Option.bind_some,
   zaj n old _ (zgE (zn 0 _ hxo.a.1 hxo.a.2).2 (zn 0 _ hxo.b.1 hxo.b.2).2) (by simp) hn, Option.bind_some, zj (by rw [List.length_append]; omega), cond_true, zjX n old _ hxo.l (by omega) hn, Option.bind_some,
   zj (by simp only [List.length_append]; omega), cond_true, zjX n old _ hxo.k (by omega) hn, Option.bind_some, zj (by simp only [List.length_append]; omega), cond_true, zt (by omega)]
  simp only [List.append_assoc]
 ·have hn3 := hs.n
  show qbp_B0 n old ((s.1).length : Int) s.1 s.2.1 s.2.2.1 s.2.2.2.1 s.2.2.2.2.1 s.2.2.2.2.2.1 s.2.2.2.2.2.2 m1 a m3 m4 = _
  unfold qbp_B0
  rw [zd, decide_eq_false (by omega), cond_false]
theorem zor (n : Nat) (old : Bool) (s : StD) (ho : OkS s) (hs : SmallS s) (m1 m2 m4 : List Int) (hn : 200000 ≤ n) :
  qbp_W2 n ((old, 0), (s, (m1, (m2, ([], m4))))) = some (old, (s, (m1, (m2, ((s.2.1).flatMap (obB old), m4))))) := by
 have h := zN (B := fun s => qbp_B2 n s.1.1 s.1.2 s.2.1.1 s.2.1.2.1 s.2.1.2.2.1 s.2.1.2.2.2.1 s.2.1.2.2.2.2.1 s.2.1.2.2.2.2.2.1 s.2.1.2.2.2.2.2.2 s.2.2.1 s.2.2.2.1 s.2.2.2.2.1 s.2.2.2.2.2) (xs := s.2.1) (mk := fun i a => ((old, (i : Int)), (s, (m1, (m2, (a, m4)))))) (f := obB old)
  (e := fun a => (old, (s, (m1, (m2, (a, m4)))))) (c := 100000) (m0 := []) (cap := 40000000) (fun x hm => zcB old x (hs.o x hm)) (by have := hs.n; simp; omega) (fun i a x hx hm ha => ?_) (fun a => ?_) (n := n) (by have := hs.n; omega)
 ·exact h
 ·have hi := zw hx
  have hn3 := hs.n
  have hxo := ho.o x hm
  have hsx := hs.o x hm
  show qbp_B2 n old (i : Int) s.1 s.2.1 s.2.2.1 s.2.2.2.1 s.2.2.2.2.1 s.2.2.2.2.2.1 s.2.2.2.2.2.2 m1 m2 a m4 = _
  have l0 := zcB old x hsx
  unfold obB at ha l0 ⊢
  simp only [List.length_append] at ha l0
  unfold qbp_B2
  rw [zd, decide_eq_true (by omega), cond_true, zr, hx, Option.bind_some, (zn n _ hxo.a.1 hxo.a.2).1, Option.bind_some, (zn n _ hxo.b.1 hxo.b.2).1, Option.bind_some,
   zaj n old _ (zgE (zn 0 _ hxo.a.1 hxo.a.2).2 (zn 0 _ hxo.b.1 hxo.b.2).2) (by simp) hn, Option.bind_some, zj (by rw [List.length_append]; omega), cond_true, zjX n old _ hxo.l (by omega) hn, Option.bind_some,
   zj (by simp only [List.length_append]; omega), cond_true, zbN x.2.2.2 (by omega), zaj n old [((x.2.2.2.length : Nat) : Int)] (fun v hv => by rw [List.mem_singleton.1 hv]; exact ⟨by omega, by omega⟩) (by simp) hn, Option.bind_some,
   zj (by simp only [List.length_append]; omega), cond_true, zj (by simp only [List.length_append]; omega), cond_true, zt (by omega)]
  simp only [List.append_assoc]
 ·have hn3 := hs.n
  show qbp_B2 n old ((s.2.1).length : Int) s.1 s.2.1 s.2.2.1 s.2.2.2.1 s.2.2.2.2.1 s.2.2.2.2.2.1 s.2.2.2.2.2.2 m1 m2 a m4 = _
  unfold qbp_B2
  rw [zd, decide_eq_false (by omega), cond_false]
theorem zoV (n : Nat) (old : Bool) (s : StD) (ho : OkS s) (hs : SmallS s) (m1 m2 m3 : List Int) (hn : 200000 ≤ n) :
  qbp_W4 n ((old, 0), (s, (m1, (m2, (m3, []))))) = some (old, (s, (m1, (m2, (m3, (s.2.2.1).flatMap (haB old)))))) := by
 have h := zN (B := fun s => qbp_B4 n s.1.1 s.1.2 s.2.1.1 s.2.1.2.1 s.2.1.2.2.1 s.2.1.2.2.2.1 s.2.1.2.2.2.2.1 s.2.1.2.2.2.2.2.1 s.2.1.2.2.2.2.2.2 s.2.2.1 s.2.2.2.1 s.2.2.2.2.1 s.2.2.2.2.2) (xs := s.2.2.1) (mk := fun i a => ((old, (i : Int)), (s, (m1, (m2, (m3, a)))))) (f := haB old)
  (e := fun a => (old, (s, (m1, (m2, (m3, a)))))) (c := 100000) (m0 := []) (cap := 40000000) (fun x hm => zeQ old x ) (by have := hs.n; simp; omega) (fun i a x hx hm ha => ?_) (fun a => ?_) (n := n) (by have := hs.n; omega)
 ·exact h
 ·have hi := zw hx
  have hn3 := hs.n
  have hxo := ho.h x hm
  show qbp_B4 n old (i : Int) s.1 s.2.1 s.2.2.1 s.2.2.2.1 s.2.2.2.2.1 s.2.2.2.2.2.1 s.2.2.2.2.2.2 m1 m2 m3 a = _
  have l0 := zeQ old x
  have hu := zmT hxo
  unfold haB at ha l0 ⊢
  unfold qbp_B4
  rw [zd, decide_eq_true (by omega), cond_true, zr, hx, Option.bind_some]
  cases hop : x.2.2 with
  | true =>
   rw [hop, cond_true] at ha l0 hu
   rw [cond_true, (zn n _ hxo.a.1 hxo.a.2).1, Option.bind_some, zaj n old _ hu (by simp) hn, Option.bind_some, zj (by rw [List.length_append]; omega), cond_true, zt (by omega)]
   rfl
  | false =>
   rw [hop, cond_false] at ha l0 hu
   rw [cond_false, (zn n _ hxo.a.1 hxo.a.2).1, Option.bind_some, zaj n old _ hu (by simp) hn, Option.bind_some, zj (by rw [List.length_append]; omega), cond_true, zt (by omega)]
   rfl
 ·have hn3 := hs.n
  show qbp_B4 n old ((s.2.2.1).length : Int) s.1 s.2.1 s.2.2.1 s.2.2.2.1 s.2.2.2.2.1 s.2.2.2.2.2.1 s.2.2.2.2.2.2 m1 m2 m3 a = _
  unfold qbp_B4
  rw [zd, decide_eq_false (by omega), cond_false]
def partB {A : Type} (old : Bool) (f : A → List Int) (l : List A) : List Int := numsB old [(l.length : Int)] ++ l.flatMap f
theorem zcV {A : Type} (old : Bool) {f : A → List Int} {l : List A} (h : ∀ x ∈ l, IsBytes (f x)) (hl : l.length ≤ 100000) : IsBytes (partB old f l) := app_bytes (zV old fun v hv => by rw [List.mem_singleton.1 hv]; exact ⟨by omega, by omega⟩) fun x hx => by
 obtain ⟨y, hy, hx⟩ := List.mem_flatMap.1 hx
 exact h y hy x hx
theorem zbn {A : Type} (old : Bool) {f : A → List Int} {l : List A} (h : ∀ x ∈ l, (f x).length ≤ 100000) : (partB old f l).length ≤ 11 + 100000 * l.length := by
 have h1 := zS old [(l.length : Int)]
 have h2 := zZ f 100000 l h
 simp only [List.length_cons, List.length_nil] at h1
 unfold partB
 rw [List.length_append]; omega
def headB (old : Bool) (s : StD) (p : BitVec 32) : List Int := [bif old then 1 else 2] ++ le4 p ++ numsB old [n0 s.2.2.2.2.2.1, n0 s.2.2.2.1, n0 s.2.2.2.2.1, s.2.2.2.2.2.2]
def imgB (old : Bool) (s : StD) (p : BitVec 32) : List Int :=
 bif old then headB old s p ++ partB old (haB old) s.2.2.1 ++ partB old (frB old) s.1 ++ partB old (obB old) s.2.1
 else headB old s p ++ partB old (frB old) s.1 ++ partB old (obB old) s.2.1 ++ partB old (haB old) s.2.2.1
theorem zhM {s : StD} (ho : OkS s) : ∀ v ∈ [n0 s.2.2.2.2.2.1, n0 s.2.2.2.1, n0 s.2.2.2.2.1, s.2.2.2.2.2.2], u64 v := fun v hv => by
 rcases List.mem_cons.1 hv with rfl | hv
 ·exact (zn 0 _ ho.e.1 ho.e.2).2
 ·rcases List.mem_cons.1 hv with rfl | hv
  ·exact (zn 0 _ ho.q.1 ho.q.2).2
  ·rcases List.mem_cons.1 hv with rfl | hv
   ·exact (zn 0 _ ho.u.1 ho.u.2).2
   ·rw [List.mem_singleton.1 hv]; exact ho.v
theorem zlx (old : Bool) {s : StD} (ho : OkS s) (p : BitVec 32) : IsBytes (headB old s p) := app_bytes (app_bytes (fun x hx => by rw [List.mem_singleton.1 hx]; cases old <;> simp) (zfr p)) (zV old (zhM ho))
theorem ziN (old : Bool) (s : StD) (p : BitVec 32) : (headB old s p).length ≤ 100 := by
 have h1 := zS old [n0 s.2.2.2.2.2.1, n0 s.2.2.2.1, n0 s.2.2.2.2.1, s.2.2.2.2.2.2]
 simp only [List.length_cons, List.length_nil] at h1
 unfold headB
 simp only [List.length_append, List.length_cons, List.length_nil, le4]
 omega
theorem zaP (old : Bool) {s : StD} (ho : OkS s) (hs : SmallS s) (p : BitVec 32) : IsBytes (imgB old s p) := by
 have hn := hs.n
 have a := zlx old ho p
 have f := zcV old (f := frB old) (l := s.1) (fun x hx => znI old (ho.f x hx) (hs.f x hx)) (by omega)
 have o := zcV old (f := obB old) (l := s.2.1) (fun x hx => znx old (ho.o x hx) (hs.o x hx)) (by omega)
 have h := zcV old (f := haB old) (l := s.2.2.1) (fun x hx => znt old (ho.h x hx)) (by omega)
 unfold imgB
 cases old with
 | true => exact app_bytes (app_bytes (app_bytes a h) f) o
 | false => exact app_bytes (app_bytes (app_bytes a f) o) h
theorem zih (old : Bool) {s : StD} (hs : SmallS s) (p : BitVec 32) : (imgB old s p).length ≤ 40000000 := by
 have hn := hs.n
 have a := ziN old s p
 have f := zbn old (f := frB old) (l := s.1) (fun x hx => zcF old x (hs.f x hx))
 have o := zbn old (f := obB old) (l := s.2.1) (fun x hx => zcB old x (hs.o x hx))
 have h := zbn old (f := haB old) (l := s.2.2.1) (fun x hx => zeQ old x)
 unfold imgB
 cases old with
 | true => simp only [cond_true, List.length_append]; omega
 | false => simp only [cond_false, List.length_append]; omega
end Sx
end
section
/- The reference's image is the seal of its bytes; sizes of states. -/
set_option linter.unusedVariables false
set_option linter.unusedSimpArgs false
namespace Sx
open Go Go.Ab
theorem zjO (p : BitVec 32) : cvtI .u64 (W32 p) = W32 p := by
 have := p.isLt
 unfold W32
 rw [zaJ (by omega) (by omega)]
theorem zhZ {v : Int} (h : 0 ≤ v ∧ v ≤ 4294967295) : ∃ p : BitVec 32, W32 p = v := ⟨BitVec.ofNat 32 v.toNat, by
 unfold W32
 rw [BitVec.toNat_ofNat, Nat.mod_eq_of_lt (by omega)]
 omega⟩
theorem zeH (n : Nat) (hn : 100000000 ≤ n) (old : Bool) (s : StD) (ho : OkS s) (hs : SmallS s) (p : BitVec 32) :
  qbp n s.1 s.2.1 s.2.2.1 s.2.2.2.1 s.2.2.2.2.1 s.2.2.2.2.2.1 s.2.2.2.2.2.2 (W32 p) old = some (sealV (imgB old s p)) := by
 have hN := hs.n
 have hb := zaP old ho hs p
 have hl := zih old hs p
 have hh := ziN old s p
 have f := zbn old (f := frB old) (l := s.1) (fun x hx => zcF old x (hs.f x hx))
 have o := zbn old (f := obB old) (l := s.2.1) (fun x hx => zcB old x (hs.o x hx))
 have h := zbn old (f := haB old) (l := s.2.2.1) (fun x hx => zeQ old x)
 have sg : ∀ k : Nat, k ≤ 100000 → ∀ v ∈ [(k : Int)], u64 v := fun k hk v hv => by rw [List.mem_singleton.1 hv]; exact ⟨by omega, by omega⟩
 have hle : (le4 p).length = 4 := rfl
 have hq := zS old [n0 s.2.2.2.2.2.1, n0 s.2.2.2.1, n0 s.2.2.2.2.1, s.2.2.2.2.2.2]
 simp only [List.length_cons, List.length_nil] at hq
 unfold partB at f o h
 simp only [List.length_append] at f o h
 unfold qbp
 cases old with
 | true =>
  have e : headB true s p = [1] ++ le4 p ++ numsB true [n0 s.2.2.2.2.2.1, n0 s.2.2.2.1, n0 s.2.2.2.2.1, s.2.2.2.2.2.2] := rfl
  rw [cond_true, zjO, zdf n p (by omega), Option.bind_some, show List.set [(2 : Int)] 0 1 = [1] from rfl, zj (by simp [hle]), cond_true, (zn n _ ho.e.1 ho.e.2).1, Option.bind_some, (zn n _ ho.q.1 ho.q.2).1, Option.bind_some,
   (zn n _ ho.u.1 ho.u.2).1, Option.bind_some, zaj n true _ (zhM ho) (by simp) (by omega), Option.bind_some, zj (by simp only [List.length_append, List.length_cons, List.length_nil, hle]; omega), cond_true, ← e]
  have w0 := zok n true s ho hs (headB true s p) [] [] (by omega)
  have w2 := zor n true s ho hs (headB true s p) (s.1.flatMap (frB true)) [] (by omega)
  have w4 := zoV n true s ho hs (headB true s p) (s.1.flatMap (frB true)) (s.2.1.flatMap (obB true)) (by omega)
  refine (congrArg (fun q => Option.bind q _) w0).trans ?_
  rw [Option.bind_some]
  refine (congrArg (fun q => Option.bind q _) w2).trans ?_
  rw [Option.bind_some]
  refine (congrArg (fun q => Option.bind q _) w4).trans ?_
  rw [Option.bind_some]
  simp only
  rw [zbN s.1 (by omega), zbN s.2.1 (by omega), zbN s.2.2.1 (by omega), zaj n true _ (sg _ (by omega)) (by simp) (by omega), Option.bind_some, zj (by rw [List.length_append]; omega), cond_true,
   zaj n true _ (sg _ (by omega)) (by simp) (by omega), Option.bind_some, zj (by rw [List.length_append]; omega), cond_true, zaj n true _ (sg _ (by omega)) (by simp) (by omega), Option.bind_some, zj (by rw [List.length_append]; omega), cond_true, cond_true,
   zj (by simp only [List.length_append]; omega), cond_true, zj (by simp only [List.length_append]; omega), cond_true, zj (by simp only [List.length_append]; omega), cond_true]
  have := zhb n (imgB true s p) hb (by omega) (by omega)
  refine (congrArg (fun q => Option.bind q _) this).trans ?_
  rfl
 | false =>
  have e : headB false s p = [2] ++ le4 p ++ numsB false [n0 s.2.2.2.2.2.1, n0 s.2.2.2.1, n0 s.2.2.2.2.1, s.2.2.2.2.2.2] := rfl
  rw [cond_false, zjO, zdf n p (by omega), Option.bind_some, zj (by simp [hle]), cond_true, (zn n _ ho.e.1 ho.e.2).1, Option.bind_some, (zn n _ ho.q.1 ho.q.2).1, Option.bind_some,
   (zn n _ ho.u.1 ho.u.2).1, Option.bind_some, zaj n false _ (zhM ho) (by simp) (by omega), Option.bind_some, zj (by simp only [List.length_append, List.length_cons, List.length_nil, hle]; omega), cond_true, ← e]
  have w0 := zok n false s ho hs (headB false s p) [] [] (by omega)
  have w2 := zor n false s ho hs (headB false s p) (s.1.flatMap (frB false)) [] (by omega)
  have w4 := zoV n false s ho hs (headB false s p) (s.1.flatMap (frB false)) (s.2.1.flatMap (obB false)) (by omega)
  refine (congrArg (fun q => Option.bind q _) w0).trans ?_
  rw [Option.bind_some]
  refine (congrArg (fun q => Option.bind q _) w2).trans ?_
  rw [Option.bind_some]
  refine (congrArg (fun q => Option.bind q _) w4).trans ?_
  rw [Option.bind_some]
  simp only
  rw [zbN s.1 (by omega), zbN s.2.1 (by omega), zbN s.2.2.1 (by omega), zaj n false _ (sg _ (by omega)) (by simp) (by omega), Option.bind_some, zj (by rw [List.length_append]; omega), cond_true,
   zaj n false _ (sg _ (by omega)) (by simp) (by omega), Option.bind_some, zj (by rw [List.length_append]; omega), cond_true, zaj n false _ (sg _ (by omega)) (by simp) (by omega), Option.bind_some, zj (by rw [List.length_append]; omega), cond_true, cond_false,
   zj (by simp only [List.length_append]; omega), cond_true, zj (by simp only [List.length_append]; omega), cond_true, zj (by simp only [List.length_append]; omega), cond_true]
  have := zhb n (imgB false s p) hb (by omega) (by omega)
  refine (congrArg (fun q => Option.bind q _) this).trans ?_
  rfl
theorem answers21 (n : Nat) (hn : 100 ≤ n) : qba n = some true := by
 obtain ⟨m, rfl⟩ : ∃ m, n = m + 100 := ⟨n - 100, by omega⟩
 kernel_rfl
end Sx
end
section
/- Which states are small; the two versions' images. -/
set_option linter.unusedVariables false
set_option linter.unusedSimpArgs false
namespace Sx
open Go Go.Ab
structure LenSt (s : StD) : Prop where
 n1 : s.1.length ≤ 140737488351232
 n2 : s.2.1.length ≤ 140737488351232
 n3 : s.2.2.1.length ≤ 140737488351232
 f : ∀ x ∈ s.1, x.2.2.1.length ≤ 140737488351232 ∧ x.2.2.2.length ≤ 140737488351232
 o : ∀ x ∈ s.2.1, x.2.2.1.length ≤ 140737488351232 ∧ x.2.2.2.length ≤ 140737488351232
theorem small21 (n : Nat) (s : StD) (hl : LenSt s) (hn : 1000 ≤ n) : ∃ x, qbr n s.1 s.2.1 s.2.2.1 s.2.2.2.1 s.2.2.2.2.1 s.2.2.2.2.2.1 s.2.2.2.2.2.2 = some x ∧ (x = true → SmallS s) := by
 unfold qbr
 have n1 := hl.n1
 have n2 := hl.n2
 have n3 := hl.n3
 have hs : addI .i64 (addI .i64 (lenI s.2.1) (lenI s.2.2.1)) (lenI s.1) = ((s.1.length + s.2.1.length + s.2.2.1.length : Nat) : Int) := by
  simp only [zd]
  rw [zag (b := ((s.2.2.1.length : Nat) : Int)) (by omega) (by omega) (by omega), zag (b := ((s.1.length : Nat) : Int)) (by omega) (by omega) (by omega)]
  omega
 rw [hs]
 by_cases h3 : s.1.length + s.2.1.length + s.2.2.1.length > 300
 ·rw [decide_eq_true (by omega), cond_true]
  exact ⟨false, rfl, fun h => by cases h⟩
 ·rw [decide_eq_false (by omega), cond_false]
  have h0 := zeY (B := fun s => qbr_B0 n s.1.1 s.1.2 s.2.1 s.2.2.1 s.2.2.2.1 s.2.2.2.2.1 s.2.2.2.2.2.1 s.2.2.2.2.2.2.1 s.2.2.2.2.2.2.2) (xs := s.2.1) (mk := fun i a => ((a, (i : Int)), s)) (f := fun x => x.2.2.1.length + x.2.2.2.length) (e := fun a => (a, s))
   (c := 281474976702464) (base := ((s.1.length + s.2.1.length + s.2.2.1.length : Nat) : Int)) (by omega) (fun x hx => by have := hl.o x hx; omega) (by omega) (fun i a x hx hm ha hb => by
    have hi := zw hx
    have hlx := hl.o x hm
    show qbr_B0 n a (i : Int) s.1 s.2.1 s.2.2.1 s.2.2.2.1 s.2.2.2.2.1 s.2.2.2.2.2.1 s.2.2.2.2.2.2 = _
    unfold qbr_B0
    rw [zd, decide_eq_true (by omega), cond_true, zr, hx, Option.bind_some, Option.bind_some, zd, zd, zag (b := ((x.2.2.1.length : Nat) : Int)) (by omega) (by omega) (by omega), zag (b := ((x.2.2.2.length : Nat) : Int)) (by omega) (by omega) (by omega), zt (by omega)]
    rw [show a + ((x.2.2.1.length + x.2.2.2.length : Nat) : Int) = a + (x.2.2.1.length : Int) + (x.2.2.2.length : Int) by omega]) (fun a => by
    show qbr_B0 n a (s.2.1.length : Int) s.1 s.2.1 s.2.2.1 s.2.2.2.1 s.2.2.2.2.1 s.2.2.2.2.2.1 s.2.2.2.2.2.2 = _
    unfold qbr_B0
    rw [zd, decide_eq_false (by omega), cond_false]) (n := n) (by omega)
  obtain ⟨a, e0, a1, a2, a3⟩ := h0
  have h1 := zeY (B := fun s => qbr_B2 n s.1.1 s.1.2 s.2.1 s.2.2.1 s.2.2.2.1 s.2.2.2.2.1 s.2.2.2.2.2.1 s.2.2.2.2.2.2.1 s.2.2.2.2.2.2.2) (xs := s.1) (mk := fun i a => ((a, (i : Int)), s)) (f := fun x => x.2.2.1.length + x.2.2.2.length) (e := fun a => (a, s))
   (c := 281474976702464) (base := a) (by omega) (fun x hx => by have := hl.f x hx; omega) (by omega) (fun i a x hx hm ha hb => by
    have hi := zw hx
    have hlx := hl.f x hm
    show qbr_B2 n a (i : Int) s.1 s.2.1 s.2.2.1 s.2.2.2.1 s.2.2.2.2.1 s.2.2.2.2.2.1 s.2.2.2.2.2.2 = _
    unfold qbr_B2
    rw [zd, decide_eq_true (by omega), cond_true, zr, hx, Option.bind_some, Option.bind_some, zd, zd, zag (b := ((x.2.2.1.length : Nat) : Int)) (by omega) (by omega) (by omega), zag (b := ((x.2.2.2.length : Nat) : Int)) (by omega) (by omega) (by omega), zt (by omega)]
    rw [show a + ((x.2.2.1.length + x.2.2.2.length : Nat) : Int) = a + (x.2.2.1.length : Int) + (x.2.2.2.length : Int) by omega]) (fun a => by
    show qbr_B2 n a (s.1.length : Int) s.1 s.2.1 s.2.2.1 s.2.2.2.1 s.2.2.2.2.1 s.2.2.2.2.2.1 s.2.2.2.2.2.2 = _
    unfold qbr_B2
    rw [zd, decide_eq_false (by omega), cond_false]) (n := n) (by omega)
  obtain ⟨b, e1, b1, b2, b3⟩ := h1
  refine ⟨decide (b < 3000), ?_, fun h => ?_⟩
  ·refine (congrArg (fun q => Option.bind q _) e0).trans ?_
   rw [Option.bind_some]
   refine (congrArg (fun q => Option.bind q _) e1).trans ?_
   rfl
  ·have hb := of_decide_eq_true h
   exact ⟨by omega, fun x hx => by have := b3 x hx; omega, fun x hx => by have := a3 x hx; omega⟩
theorem zlT {b : List Int} {x : Int} {r : List Int} (he : b = x :: r) (h : 0 ≤ x ∧ x ≤ 255) (h2 : x ≠ 2) : bodyV b = (emptySt, 0, 2) := by
 subst he
 have t1 : takeV 1 (x :: r) false = ([x], r, false) := zfd (k := 1) (by simp)
 unfold bodyV
 rw [t1]
 simp only
 rw [fix1 h, if_pos (.inl h2)]
theorem zkV (b : List Int) (h : (sealV b).length ≤ 65536) : decV (sealV b) = bodyV b := by
 unfold decV
 rw [if_neg (by omega), ziD]
 rfl
theorem ziz (n : Nat) (b : List Int) {x : Int} {r : List Int} (he : b = x :: r) (hb : IsBytes b) (h1 : x ≠ 1) (hl : (sealV b).length ≤ 65536) (hn : 100000 ≤ n) : qbs n (sealV b) = some ([], 2) := by
 have hx := hb x (by rw [he]; simp)
 have hlen := zbm b
 unfold qbs qbj
 rw [zd, decide_eq_false (by omega), cond_false, zjQ n (sealV b) (zan hb) (by omega) (by omega), Option.bind_some, ziD]
 simp only
 rw [show ((0 : Int) != 0) = false from rfl, cond_false]
 unfold qbc
 rw [zj (by omega), cond_true, Option.bind_some]
 simp only
 have t1 : takeV 1 b false = ([x], r, false) := by rw [he]; exact zfd (k := 1) (by simp)
 rw [zjk n b false (by omega), Option.bind_some, t1]
 simp only
 rw [fix1 hx, show cvtI .u64 1 = 1 from by decide, show (x != 1) = true from bne_iff_ne.2 h1]
 rfl
theorem zjR (s : StD) (ho : OkS s) (hl : LenSt s) (p : BitVec 32) : law21OldVersions 100000000 s.1 s.2.1 s.2.2.1 s.2.2.2.1 s.2.2.2.2.1 s.2.2.2.2.2.1 s.2.2.2.2.2.2 (W32 p) = some true := by
 unfold law21OldVersions
 obtain ⟨x, e, hS⟩ := small21 100000000 s hl (by omega)
 rw [e, Option.bind_some, answers21 100000000 (by omega)]
 cases x with
 | false => rfl
 | true =>
  have hs := hS rfl
  rw [Bool.not_true, cond_false, zeH 100000000 (by omega) true s ho hs p, Option.bind_some, zeH 100000000 (by omega) false s ho hs p, Option.bind_some, zd, zd]
  by_cases h1 : (sealV (imgB true s p)).length > 65536
  ·rw [decide_eq_true (by omega)]; rfl
  ·rw [decide_eq_false (by omega), cond_false]
   by_cases h2 : (sealV (imgB false s p)).length > 65536
   ·rw [decide_eq_true (by omega)]; rfl
   ·have b1 := zaP true ho hs p
    have b2 := zaP false ho hs p
    have l1 := zbm (imgB true s p)
    rw [decide_eq_false (by omega), cond_false, ziz 100000000 (imgB false s p) (x := 2) rfl b2 (by omega) (by omega) (by omega), Option.bind_some, ziL 100000000 (sealV (imgB true s p)) (zan b1) (by omega) (by omega), Option.bind_some,
     zkV _ (by omega), zlT (b := imgB true s p) (x := 1) rfl (by omega) (by omega)]
    rfl
end Sx
end
section
/- The plain law of ImageVersion at the row's own data. -/
set_option linter.unusedVariables false
namespace Sx
open Go Go.Ab
end Sx
end
section
/- The plain laws over states at the rows' own data. -/
set_option linter.unusedVariables false
namespace Sx
open Go Go.Ab
abbrev numsT : Ty := .sl false (.int .u64)
abbrev frT : Ty := .cons (.int .i64) (.cons (.int .i64) (.cons numsT numsT))
abbrev obT : Ty := .cons (.int .i64) (.cons (.int .i64) (.cons numsT (.sl false (.int .u8))))
abbrev haT : Ty := .cons (.int .i64) (.cons (.int .u64) .bool)
def shS : Sh := .agg (.cons (.sl true true frT) (.cons (.sl true true obT) (.cons (.sl true true haT) (.cons (.int .i64) (.cons (.int .i64) (.cons (.int .i64) (.cons (.int .u64) .nil)))))))
theorem zjz {d : StD} (h : FitS shS d) : OkS d ∧ LenSt d := by
 obtain ⟨⟨l1, e1⟩, ⟨l2, e2⟩, ⟨l3, e3⟩, q, u, e, v, _⟩ : Fit (.sl true frT) d.1 ∧ Fit (.sl true obT) d.2.1 ∧ Fit (.sl true haT) d.2.2.1 ∧ Fit (.int .i64) d.2.2.2.1 ∧ Fit (.int .i64) d.2.2.2.2.1 ∧ Fit (.int .i64) d.2.2.2.2.2.1 ∧ Fit (.int .u64) d.2.2.2.2.2.2 ∧ True := h
 have f1 : ∀ x ∈ d.1, Fit (.int .i64) x.1 ∧ Fit (.int .i64) x.2.1 ∧ Fit numsT x.2.2.1 ∧ Fit numsT x.2.2.2 := e1
 have f2 : ∀ x ∈ d.2.1, Fit (.int .i64) x.1 ∧ Fit (.int .i64) x.2.1 ∧ Fit numsT x.2.2.1 ∧ Fit (.sl false (.int .u8)) x.2.2.2 := e2
 have f3 : ∀ x ∈ d.2.2.1, Fit (.int .i64) x.1 ∧ Fit (.int .u64) x.2.1 ∧ Fit .bool x.2.2 := e3
 refine ⟨⟨fun x hx => ?_, fun x hx => ?_, fun x hx => ?_, zdm q, zdm u, zdm e, zhB v⟩, ⟨l1, l2, l3, fun x hx => ?_, fun x hx => ?_⟩⟩
 ·obtain ⟨a, b, ⟨_, c⟩, ⟨_, k⟩⟩ := f1 x hx
  exact ⟨zdm a, zdm b, fun v hv => zhB (c v hv), fun v hv => zhB (k v hv)⟩
 ·obtain ⟨a, b, ⟨_, c⟩, ⟨_, k⟩⟩ := f2 x hx
  exact ⟨zdm a, zdm b, fun v hv => zhB (c v hv), fun v hv => zqf (k v hv)⟩
 ·obtain ⟨a, b, _⟩ := f3 x hx
  exact ⟨zdm a, zhB b⟩
 ·obtain ⟨_, _, ⟨c, _⟩, ⟨k, _⟩⟩ := f1 x hx
  exact ⟨c, k⟩
 ·obtain ⟨_, _, ⟨c, _⟩, ⟨k, _⟩⟩ := f2 x hx
  exact ⟨c, k⟩
theorem zgQ (d : StD × Int) (hf : FitS (.cons shS (.cons (.int .u32) .nil)) d) : ∃ n, law21OldVersions n d.1.1 d.1.2.1 d.1.2.2.1 d.1.2.2.2.1 d.1.2.2.2.2.1 d.1.2.2.2.2.2.1 d.1.2.2.2.2.2.2 d.2 = some true := by
 obtain ⟨h1, h2, _⟩ : FitS shS d.1 ∧ Fit (.int .u32) d.2 ∧ True := hf
 obtain ⟨p, hp⟩ := zhZ (zlX h2)
 obtain ⟨ho, hl⟩ := zjz h1
 exact ⟨100000000, by rw [← hp]; exact zjR d.1 ho hl p⟩
end Sx
end
