/- Plain laws (texts MrA, MrB, MrC, MrE, MrF, MrG, MrHa, MrS, MrT, MrU, MrV, MrW, MrX, MrY, MrZ, MrBack, MrBack2, MrSum, MrLaw, ModRowPlain2, ModRowPlain3). -/
import Derived.Test.YtmfemlkbeehioaaModRSh
import Derived.Test.YtmfemlkbeehioaaLib8
import Derived.KernelRfl
import Derived.Test.YtmfemlkbeehioaaLib7
import Derived.Test.YtmfemlkbeehioaaLib31
section
/- Numbers, types and instructions as bytes: what the printed functions come to. -/
set_option linter.unusedVariables false
set_option linter.unusedSimpArgs false
namespace Sx
open Go Go.Ab
def varF : Nat → Nat → List Int
 | 0, v => [(v : Int)]
 | k + 1, v => if v < 128 then [(v : Int)] else ((128 + v % 128 : Nat) : Int) :: varF k (v / 128)
def varN (v : Nat) : List Int := varF 10 v
theorem zhH : ∀ (k v : Nat), 1 ≤ (varF k v).length ∧ (varF k v).length ≤ k + 1
 | 0, v => ⟨Nat.le_refl _, Nat.le_refl _⟩
 | k + 1, v => by
  unfold varF
  split
  ·exact ⟨by simp, by simp⟩
  ·have := zhH k (v / 128)
   rw [List.length_cons]; omega
theorem zg (v : Nat) : 1 ≤ (varN v).length ∧ (varN v).length ≤ 11 := zhH 10 v
theorem zgQ : ∀ (k v : Nat), v < 128 ^ (k + 1) → ∀ x ∈ varF k v, 0 ≤ x ∧ x ≤ 255
 | 0, v, h, x, hx => by
  simp only [varF, List.mem_singleton] at hx
  omega
 | k + 1, v, h, x, hx => by
  unfold varF at hx
  split at hx
  ·rw [List.mem_singleton.1 hx]; omega
  ·rcases List.mem_cons.1 hx with rfl | hx
   ·omega
   ·exact zgQ k (v / 128) (by rw [Nat.pow_succ] at h; omega) x hx
theorem zew {v : Nat} (h : v < 18446744073709551616) : ∀ x ∈ varN v, 0 ≤ x ∧ x ≤ 255 := zgQ 10 v (by omega)
theorem or128 (v : Nat) : orI .u8 (cvtI .u8 (v : Int)) 128 = ((128 + v % 128 : Nat) : Int) := by
 rw [zfP]
 have h : ∀ m : Nat, m < 256 → orI .u8 (m : Int) 128 = ((128 + m % 128 : Nat) : Int) := by decide +kernel
 have := h (v % 256) (by omega)
 rw [show ((v : Int) % 256) = ((v % 256 : Nat) : Int) by omega, this]
 omega
theorem shr7 (v : Nat) : shrI .u64 (v : Int) 7 = ((v / 128 : Nat) : Int) := by
 show (v : Int).fdiv (2 ^ (min (7 : Int).toNat 64)) = _
 rw [show ((2 : Int) ^ (min (7 : Int).toNat 64)) = 128 from rfl, Int.fdiv_eq_ediv_of_nonneg _ (by omega)]
 omega
theorem qcs_loop (n : Nat) : ∀ (k v m : Nat) (acc : List Int), v < 128 ^ (k + 1) → acc.length + k ≤ 4294967000 → k < m → ∃ r, loopS (fun s => qcs_B0 n s.1 s.2) m ((v : Int), acc) = some r ∧ 0 ≤ r.1 ∧ r.1 ≤ 127 ∧ r.2 ++ [r.1] = acc ++ varF k v ∧ r.2.length ≤ acc.length + k
 | 0, v, m + 1, acc, hv, ha, hm => by
  refine ⟨((v : Int), acc), zr ?_, by omega, by simp only []; omega, rfl, by simp⟩
  show qcs_B0 n (v : Int) acc = _
  unfold qcs_B0
  rw [decide_eq_false (by omega), cond_false]
 | k + 1, v, m + 1, acc, hv, ha, hm => by
  by_cases h : v < 128
  ·refine ⟨((v : Int), acc), zr ?_, by omega, by simp only []; omega, by simp [varF, h], by simp⟩
   show qcs_B0 n (v : Int) acc = _
   unfold qcs_B0
   rw [decide_eq_false (by omega), cond_false]
  ·have hb : qcs_B0 n (v : Int) acc = some (Sum.inl (((v / 128 : Nat) : Int), acc ++ [((128 + v % 128 : Nat) : Int)])) := by
    unfold qcs_B0
    rw [decide_eq_true (by omega), cond_true, or128, shr7, zo (by simp; omega), cond_true]
   rw [zA (s := ((v : Int), acc)) hb]
   obtain ⟨r, h1, h2, h3, h4, h5⟩ := qcs_loop n k (v / 128) m (acc ++ [((128 + v % 128 : Nat) : Int)]) (by rw [Nat.pow_succ] at hv; omega) (by simp; omega) (by omega)
   refine ⟨r, h1, h2, h3, ?_, by simp at h5; omega⟩
   rw [h4, varF, if_neg h]
   simp
 | _, _, 0, _, _, _, hm => by omega
theorem qcs_eq (n v : Nat) (hv : v < 18446744073709551616) (hn : 20 ≤ n) : qcs n (v : Int) = some (varN v) := by
 unfold qcs
 obtain ⟨r, h1, h2, h3, h4, h5⟩ := qcs_loop n 10 v n [] (by omega) (by simp) (by omega)
 rw [show qcs_W0 n ((v : Int), []) = some r from h1, Option.bind_some, zcT h2 (by omega), h4, zo (by have := zg v; simp [varN] at this; simp; omega), cond_true]
 rfl
theorem quo128 {v : Nat} (hv : v < 18446744073709551616) : quoI .u64 (v : Int) 128 = ((v / 128 : Nat) : Int) := by
 show IntKind.u64.wrap ((v : Int).tdiv 128) = _
 rw [Int.tdiv_eq_ediv_of_nonneg (by omega), wrapU64]
 omega
theorem zkg (n : Nat) : ∀ (k v d : Nat), v < 128 ^ (k + 1) → v < 18446744073709551616 → k < d → k ≤ 11 → qch_D n d (v : Int) = some (varF k v)
 | 0, v, d + 1, hv, h64, hd, hk => by
  show qch_S n (qch_D n d) (v : Int) = _
  unfold qch_S
  rw [decide_eq_true (by omega), cond_true, zcT (by omega) (by omega)]; rfl
 | k + 1, v, d + 1, hv, h64, hd, hk => by
  show qch_S n (qch_D n d) (v : Int) = _
  unfold qch_S
  by_cases h : v < 128
  ·rw [decide_eq_true (by omega), cond_true, zcT (by omega) (by omega), varF, if_pos h]
  ·have hl := zhH k (v / 128)
   rw [decide_eq_false (by omega), cond_false, quo128 h64, zkg n k (v / 128) d (by rw [Nat.pow_succ] at hv; omega) (by omega) (by omega) (by omega), Option.bind_some, zdl (by omega)]
   have h1 : addI .u64 128 ((v : Int) % 128) = ((128 + v % 128 : Nat) : Int) := by
    show IntKind.u64.wrap _ = _
    rw [wrapU64]; omega
   rw [h1, zcT (by omega) (by omega), zo (by simp; omega), cond_true, varF, if_neg h]
   rfl
 | _, _, 0, _, _, hd, _ => by omega
theorem zN (n v : Nat) (hv : v < 18446744073709551616) (hn : 20 ≤ n) : qch n (v : Int) = some (varN v) := zkg n 10 v n (by omega) hv (by omega) (by omega)
def fixN (k v : Nat) : List Int := (List.range k).map fun i => ((v / 256 ^ i % 256 : Nat) : Int)
theorem zbj (k v : Nat) : (fixN k v).length = k := by simp [fixN]
def pos (k : Int) : Nat := k.toNat
def typV (t : Int × Int) : List Int := varN (pos t.1) ++ varN (pos t.2)
theorem zah (t : Int × Int) : (typV t).length ≤ 22 := by
 have := zg (pos t.1)
 have := zg (pos t.2)
 rw [typV, List.length_append]; omega
def okI (x : Int) : Prop := -9223372036854775808 ≤ x ∧ x ≤ 9223372036854775807
def okT (t : Int × Int) : Prop := okI t.1 ∧ okI t.2
theorem znU {k : Int} (h : okI k) : pos k < 18446744073709551616 := by
 unfold pos; unfold okI at h; omega
theorem maxI0 {k : Int} (h : okI k) : cvtI .u64 (maxI k 0) = ((pos k : Nat) : Int) := by
 unfold maxI pos; unfold okI at h
 by_cases h0 : k < 0
 ·rw [decide_eq_true (by omega), cond_true]
  have : k.toNat = 0 := by omega
  rw [this]; rfl
 ·rw [decide_eq_false (by omega), cond_false, zB (by omega) (by omega)]; omega
theorem qcp_eq (n : Nat) (t : Int × Int) (ht : okT t) (hn : 20 ≤ n) : qcp n t.1 t.2 = some (typV t) := by
 unfold qcp
 have hl := zah t
 rw [maxI0 ht.1, maxI0 ht.2, qcs_eq n _ (znU ht.1) hn, Option.bind_some, qcs_eq n _ (znU ht.2) hn, Option.bind_some]
 show (bif Nat.ble (typV t).length 4294967296 then some (typV t) else none) = _
 rw [zo (by omega), cond_true]
theorem zeq (n : Nat) (t : Int × Int) (ht : okT t) (hn : 20 ≤ n) : qbz n t.1 t.2 = some (typV t) := by
 have hl := zah t
 have h0 : ∀ {k : Int}, okI k → k < 0 → qch n (cvtI .u64 0) = some (varN (pos k)) := by
  intro k hk h
  rw [show cvtI .u64 0 = ((0 : Nat) : Int) from rfl, zN n 0 (by omega) hn]
  have : pos k = 0 := by unfold pos; omega
  rw [this]
 have h1 : ∀ {k : Int}, okI k → ¬ k < 0 → qch n (cvtI .u64 k) = some (varN (pos k)) := by
  intro k hk h
  unfold okI at hk
  have : cvtI .u64 k = ((pos k : Nat) : Int) := by
   rw [zB (by omega) (by omega)]; unfold pos; omega
  rw [this, zN n _ (by unfold pos; omega) hn]
 have fin : (bif Nat.ble (varN (pos t.1) ++ varN (pos t.2)).length 4294967296 then some (varN (pos t.1) ++ varN (pos t.2)) else none) = some (typV t) := by
  show (bif Nat.ble (typV t).length 4294967296 then some (typV t) else none) = _
  rw [zo (by omega), cond_true]
 unfold qbz
 by_cases ha : t.1 < 0
 ·by_cases hb : t.2 < 0
  ·rw [decide_eq_true ha, cond_true, decide_eq_true hb, cond_true, h0 ht.1 ha, Option.bind_some]
   have := h0 ht.2 hb
   rw [h0 ht.1 ha] at this
   rw [Option.bind_some, Option.some.inj this, ← Option.some.inj this] 
   rw [Option.some.inj this] at fin ⊢
   exact fin
  ·rw [decide_eq_true ha, cond_true, decide_eq_false hb, cond_false, h0 ht.1 ha, Option.bind_some, h1 ht.2 hb, Option.bind_some]
   exact fin
 ·by_cases hb : t.2 < 0
  ·rw [decide_eq_false ha, cond_false, decide_eq_true hb, cond_true, h1 ht.1 ha, Option.bind_some, h0 ht.2 hb, Option.bind_some]
   exact fin
  ·rw [decide_eq_false ha, cond_false, decide_eq_false hb, cond_false, h1 ht.1 ha, Option.bind_some, h1 ht.2 hb, Option.bind_some]
   exact fin
def goodV (recs : Int) (t : Int × Int) : Bool :=
 if t.1 = 1 ∨ t.1 = 2 ∨ t.1 = 3 ∨ t.1 = 7 then t.2 == 0 else if t.1 = 4 then decide (0 ≤ t.2 ∧ t.2 < recs) else if t.1 = 5 then decide (0 ≤ t.2 ∧ t.2 < 4) else false
theorem zfm (n : Nat) (t : Int × Int) (recs : Int) : qck n t.1 t.2 recs = some (goodV recs t) := by
 obtain ⟨k, m⟩ := t
 unfold qck goodV
 simp only [Bool.cond_eq_ite, beq_iff_eq, decide_eq_true_eq]
 by_cases h1 : k = 1
 ·simp [h1]
 by_cases h2 : k = 2
 ·simp [h2]
 by_cases h3 : k = 3
 ·simp [h3]
 by_cases h7 : k = 7
 ·simp [h7]
 by_cases h4 : k = 4
 ·by_cases hm : 0 ≤ m <;> simp [h4, hm]
 by_cases h5 : k = 5
 ·by_cases hm : 0 ≤ m <;> simp [h5, hm]
 simp [h1, h2, h3, h4, h5, h7]
theorem zem (n : Nat) (t : Int × Int) (recs : Int) : qcb n t.1 t.2 recs = some (goodV recs t) := zfm n t recs
end Sx
end
section
/- Instructions as bytes; lists of types. -/
set_option linter.unusedVariables false
set_option linter.unusedSimpArgs false
namespace Sx
open Go Go.Ab
def argsV (op : Int) : Int :=
 if op < 0 ∨ 42 ≤ op then -1 else if op = 29 ∨ op = 30 then 2
 else if op = 0 ∨ op = 1 ∨ op = 3 ∨ op = 4 ∨ op = 23 ∨ op = 24 ∨ op = 25 ∨ op = 27 ∨ op = 28 then 1 else 0
theorem zbO (op : Int) : argsV op = -1 ∨ argsV op = 0 ∨ argsV op = 1 ∨ argsV op = 2 := by
 unfold argsV
 split
 ·exact .inl rfl
 ·split
  ·exact .inr (.inr (.inr rfl))
  ·split
   ·exact .inr (.inr (.inl rfl))
   ·exact .inr (.inl rfl)
theorem zff {op : Int} (h : 0 ≤ argsV op) : 0 ≤ op ∧ op < 42 := by
 unfold argsV at h
 split at h <;> omega
theorem qcl_eq (n : Nat) (op : Int) : qcl n op = some (argsV op) := by
 by_cases h : 0 ≤ op ∧ op < 42
 ·obtain ⟨k, rfl⟩ : ∃ k : Nat, op = (k : Int) := ⟨op.toNat, by omega⟩
  have hk : ∀ k : Nat, k < 42 → qcl 0 (k : Int) = some (argsV (k : Int)) := by decide +kernel
  exact hk k (by omega)
 ·have ha : argsV op = -1 := by
   unfold argsV
   rw [if_pos (by omega)]
  rw [ha]
  unfold qcl
  simp only [Bool.cond_eq_ite, beq_iff_eq, decide_eq_true_eq]
  rw [if_neg (by omega), if_neg (by omega), if_neg (by omega), if_neg (by omega), if_neg (by omega), if_neg (by omega), if_neg (by omega), if_neg (by omega), if_neg (by omega), if_neg (by omega), if_neg (by omega)]
  by_cases h0 : op < 0
  ·rw [if_pos h0]
  ·rw [if_neg h0, if_pos (by omega)]
theorem zlJ (n : Nat) (op : Int) (hn : 10 ≤ n) : qcg n op = some (argsV op) := by
 by_cases h : 0 ≤ op ∧ op < 42
 ·obtain ⟨k, rfl⟩ : ∃ k : Nat, op = (k : Int) := ⟨op.toNat, by omega⟩
  have hk : ∀ k : Nat, k < 42 → qcg 10 (k : Int) = some (argsV (k : Int)) := by decide +kernel
  have h3 := hk k (by omega)
  unfold qcg at h3 ⊢
  rw [decide_eq_false (by omega), cond_false, decide_eq_false (by omega), cond_false] at h3 ⊢
  cases h29 : ((k : Int) == 29) with
  | true => rw [h29] at h3; exact h3
  | false =>
   rw [h29, cond_false] at h3
   rw [cond_false]
   cases h30 : ((k : Int) == 30) with
   | true => rw [h30] at h3; exact h3
   | false =>
    rw [h30, cond_false] at h3
    rw [cond_false]
    obtain ⟨x, hx, h4⟩ := Option.bind_eq_some_iff.1 h3
    rw [show qcg_W0 n ((k : Int), [0, 1, 3, 4, 23, 24, 25, 27, 28], 0) = some x from zhT (n := 10) hx n hn]
    exact h4
 ·have ha : argsV op = -1 := by
   unfold argsV
   rw [if_pos (by omega)]
  rw [ha]
  unfold qcg
  simp only [Bool.cond_eq_ite, beq_iff_eq, decide_eq_true_eq]
  by_cases h0 : op < 0
  ·rw [if_pos h0]
  ·rw [if_neg h0, if_pos (by omega)]
theorem qco_eq (n : Nat) (v : Int) (b : Bool) : qco n v b = some (decide (0 ≤ v ∧ v ≤ 255 ∧ (b = true ∨ v = 0))) := by
 unfold qco
 simp only [Bool.cond_eq_ite, decide_eq_true_eq]
 by_cases h1 : v ≥ 0
 ·by_cases h2 : v ≤ 255
  ·cases b with
   | true => rw [if_pos h1, if_pos h2, if_pos rfl, decide_eq_true (by simp; omega)]
   | false =>
    rw [if_pos h1, if_pos h2, if_neg (by simp)]
    by_cases h3 : v = 0
    ·simp [h3]
    ·rw [beq_false_of_ne h3, decide_eq_false (by simp; omega)]
  ·rw [if_pos h1, if_neg h2, decide_eq_false (by omega)]
 ·rw [if_neg h1, decide_eq_false (by omega)]
def badI (i : Int × Int × Int) : Bool :=
 decide (argsV i.1 < 0 ∨ ¬ (0 ≤ i.2.1 ∧ i.2.1 ≤ 255 ∧ (argsV i.1 > 0 ∨ i.2.1 = 0)) ∨ ¬ (0 ≤ i.2.2 ∧ i.2.2 ≤ 255 ∧ (argsV i.1 > 1 ∨ i.2.2 = 0)))
def putV (i : Int × Int × Int) : List Int :=
 if badI i = true then [] else i.1 :: ((if argsV i.1 > 0 then varN i.2.1.toNat else []) ++ (if argsV i.1 > 1 then varN i.2.2.toNat else []))
theorem zdd (i : Int × Int × Int) : (putV i).length ≤ 23 := by
 unfold putV
 have := zg i.2.1.toNat
 have := zg i.2.2.toNat
 split
 ·simp
 ·rw [List.length_cons, List.length_append]
  split <;> split <;> simp <;> omega
theorem zkV (i : Int × Int × Int) : ((putV i).length == 0) = badI i := by
 unfold putV
 cases badI i <;> simp
theorem zgI (n : Nat) (v : Int) (h1 : 0 ≤ v) (h2 : v ≤ 255) (hn : 20 ≤ n) : qcs n (cvtI .u64 v) = some (varN v.toNat) ∧ qch n (cvtI .u64 v) = some (varN v.toNat) := by
 have : cvtI .u64 v = ((v.toNat : Nat) : Int) := by rw [zB h1 (by omega)]; omega
 rw [this]
 exact ⟨qcs_eq n _ (by omega) hn, zN n _ (by omega) hn⟩
theorem qcr_eq (n : Nat) (i : Int × Int × Int) (hn : 20 ≤ n) : qcr n i.1 i.2.1 i.2.2 = some (putV i) := by
 obtain ⟨op, a, b⟩ := i
 unfold qcr putV badI
 rw [qcl_eq, Option.bind_some]
 simp only []
 by_cases h0 : argsV op < 0
 ·rw [decide_eq_true h0, cond_true, if_pos (by rw [decide_eq_true (.inl h0)])]
 rw [decide_eq_false h0, cond_false, qco_eq, Option.bind_some]
 by_cases h1 : 0 ≤ a ∧ a ≤ 255 ∧ (argsV op > 0 ∨ a = 0)
 ·have h1' : 0 ≤ a ∧ a ≤ 255 ∧ (decide (argsV op > 0) = true ∨ a = 0) := by simpa using h1
  rw [decide_eq_true h1', Bool.not_true, cond_false, qco_eq, Option.bind_some]
  by_cases h2 : 0 ≤ b ∧ b ≤ 255 ∧ (argsV op > 1 ∨ b = 0)
  ·have h2' : 0 ≤ b ∧ b ≤ 255 ∧ (decide (argsV op > 1) = true ∨ b = 0) := by simpa using h2
   have hop := zff (op := op) (by omega)
   rw [decide_eq_true h2', Bool.not_true, cond_false, if_neg (by rw [decide_eq_false]; simp; exact fun h => by rcases h with h | h | h; exact h0 h; exact h h1; exact h h2), zcT hop.1 (by omega)]
   have va := (zgI n a h1.1 h1.2.1 hn).1
   have vb := (zgI n b h2.1 h2.2.1 hn).1
   have la := zg a.toNat
   have lb := zg b.toNat
   rcases zbO op with hk | hk | hk | hk
   ·omega
   ·rw [hk]
    obtain ⟨m, rfl⟩ : ∃ m, n = m + 1 := ⟨n - 1, by omega⟩
    rw [show (decide ((0 : Int) ≤ 0) && decide ((0 : Int) ≤ 2)) = true from rfl, cond_true]
    have h : qcr_W0 (m + 1) (((0, (Int.toNat 0) - 0), (((((Int.toNat 0) - 0) : Nat) : Int), 0)), ([op], (a, b))) = some ([op], (a, b)) := by
     refine zr ?_
     rfl
    rw [h]
    rfl
   ·rw [hk]
    obtain ⟨m, rfl⟩ : ∃ m, n = m + 2 := ⟨n - 2, by omega⟩
    rw [show (decide ((0 : Int) ≤ 1) && decide ((1 : Int) ≤ 2)) = true from rfl, cond_true]
    have h : qcr_W0 (m + 2) (((0, (Int.toNat 1) - 0), (((((Int.toNat 1) - 0) : Nat) : Int), 0)), ([op], (a, b))) = some ([op] ++ varN a.toNat, (a, b)) := by
     refine (zA (s' := (((0, 1), ((1 : Int), (1 : Int))), ([op] ++ varN a.toNat, (a, b)))) ?_).trans (zr ?_)
     ·show ((qcs (m + 2) (cvtI .u64 a)).bind fun r46 => bif Nat.ble ([op] ++ r46).length 4294967296 then some (Sum.inl (((0, 1), ((1 : Int), (addI .i64 0 1))), (([op] ++ r46), (a, b)))) else none) = _
      rw [va, Option.bind_some, zo (by simp; omega)]
      rfl
     ·rfl
    rw [h]
    simp
   ·rw [hk]
    obtain ⟨m, rfl⟩ : ∃ m, n = m + 3 := ⟨n - 3, by omega⟩
    rw [show (decide ((0 : Int) ≤ 2) && decide ((2 : Int) ≤ 2)) = true from rfl, cond_true]
    have h : qcr_W0 (m + 3) (((0, (Int.toNat 2) - 0), (((((Int.toNat 2) - 0) : Nat) : Int), 0)), ([op], (a, b))) = some (([op] ++ varN a.toNat) ++ varN b.toNat, (a, b)) := by
     refine (zA (s' := (((0, 2), ((2 : Int), (1 : Int))), ([op] ++ varN a.toNat, (a, b)))) ?_).trans ((zA (s' := (((0, 2), ((2 : Int), (2 : Int))), (([op] ++ varN a.toNat) ++ varN b.toNat, (a, b)))) ?_).trans (zr ?_))
     ·show ((qcs (m + 3) (cvtI .u64 a)).bind fun r46 => bif Nat.ble ([op] ++ r46).length 4294967296 then some (Sum.inl (((0, 2), ((2 : Int), (addI .i64 0 1))), (([op] ++ r46), (a, b)))) else none) = _
      rw [va, Option.bind_some, zo (by simp; omega)]
      rfl
     ·show ((qcs (m + 3) (cvtI .u64 b)).bind fun r46 => bif Nat.ble (([op] ++ varN a.toNat) ++ r46).length 4294967296 then some (Sum.inl (((0, 2), ((2 : Int), (addI .i64 1 1))), ((([op] ++ varN a.toNat) ++ r46), (a, b)))) else none) = _
      rw [vb, Option.bind_some, zo (by simp; omega)]
      rfl
     ·rfl
    rw [h]
    simp
  ·have h2' : ¬ (0 ≤ b ∧ b ≤ 255 ∧ (decide (argsV op > 1) = true ∨ b = 0)) := by simpa using h2
   rw [decide_eq_false h2', Bool.not_false, cond_true, if_pos (by rw [decide_eq_true (.inr (.inr h2))])]
 ·have h1' : ¬ (0 ≤ a ∧ a ≤ 255 ∧ (decide (argsV op > 0) = true ∨ a = 0)) := by simpa using h1
  rw [decide_eq_false h1', Bool.not_false, cond_true, if_pos (by rw [decide_eq_true (.inr (.inl h1))])]
theorem zkx (n : Nat) (i : Int × Int × Int) (hn : 20 ≤ n) : qbt n i.1 i.2.1 i.2.2 = some (putV i) := by
 obtain ⟨op, a, b⟩ := i
 unfold qbt putV badI
 rw [zlJ n _ (by omega), Option.bind_some]
 simp only [Bool.cond_eq_ite, decide_eq_true_eq, bne_iff_ne]
 by_cases h0 : argsV op < 0
 ·rw [if_pos h0, if_pos (.inl h0)]
 rw [if_neg h0]
 by_cases ha0 : a < 0
 ·rw [if_pos ha0, if_pos (by omega)]
 rw [if_neg ha0]
 by_cases ha1 : a > 255
 ·rw [if_pos ha1, if_pos (by omega)]
 rw [if_neg ha1]
 by_cases hb0 : b < 0
 ·rw [if_pos hb0, if_pos (by omega)]
 rw [if_neg hb0]
 by_cases hb1 : b > 255
 ·rw [if_pos hb1, if_pos (by omega)]
 rw [if_neg hb1]
 have hop := zff (op := op) (by omega)
 have va := (zgI n a (by omega) (by omega) hn).2
 have vb := (zgI n b (by omega) (by omega) hn).2
 have la := zg a.toNat
 have lb := zg b.toNat
 rw [zcT hop.1 (by omega), va, vb]
 simp only [Option.bind_some]
 have f1 : Nat.ble ([op] ++ varN a.toNat).length 4294967296 = true := zo (by simp; omega)
 have f2 : Nat.ble ([op] ++ varN b.toNat).length 4294967296 = true := zo (by simp; omega)
 have f3 : Nat.ble (([op] ++ varN a.toNat) ++ varN b.toNat).length 4294967296 = true := zo (by simp; omega)
 rw [f1, f2, f3]
 rcases zbO op with hk | hk | hk | hk
 ·omega
 ·rw [hk]
  by_cases ha : a = 0
  ·by_cases hb : b = 0
   ·simp [ha, hb]
   ·simp [ha, hb]
  ·simp [ha]
 ·rw [hk]
  by_cases hb : b = 0
  ·simp [hb]; omega
  ·simp [hb]
 ·rw [hk]
  simp; omega
end Sx
end
section
/- What may be a module, and its bytes: what the program's functions come to. -/
set_option linter.unusedVariables false
set_option linter.unusedSimpArgs false
namespace Sx
open Go Go.Ab
abbrev TyD := Int × Int
abbrev InD := Int × Int × Int
abbrev FnD := List TyD × Int × Int × List TyD × List InD
abbrev ImD := List TyD × Int × Int
def goodsV (recs most : Int) (l : List TyD) : Bool := decide ((l.length : Int) ≤ most) && l.all (goodV recs)
theorem findType (n : Nat) (l : List TyD) (recs : Int) (hl : l.length ≤ 4294967000) (hn : l.length < n) : qv n l recs = some (l.any (fun t => !goodV recs t), recs) := by
 unfold qv qal
 have h := zab (B := fun s => qal_B0 n s.1.1 s.1.2.1 s.1.2.2 s.2) (xs := l) (mk := fun i => ((l, (lenI l, (i : Int))), recs)) (p := fun t => !goodV recs t) (found := fun i x => Sum.inl ((i : Int), recs)) (e := Sum.inr recs)
  (fun i x hx => ?_) ?_ l.length 0 n (by omega) hn
 ·rw [List.drop_zero] at h
  rcases h with ⟨h1, k, x, _, _, h2⟩ | ⟨h1, h2⟩
  ·rw [show qal_W0 n ((l, (lenI l, 0)), recs) = some (Sum.inl ((k : Int), recs)) from h2, h1]
   show some (decide ((k : Int) ≥ 0), recs) = _
   rw [decide_eq_true (by omega)]
  ·rw [show qal_W0 n ((l, (lenI l, 0)), recs) = some (Sum.inr recs) from h2, h1]
   rfl
 ·have hi := zj hx
  show qal_B0 n l (lenI l) (i : Int) recs = _
  unfold qal_B0 qbj
  rw [zd, decide_eq_true (by omega), cond_true, zn, hx, Option.bind_some, zfm, Option.bind_some, Option.bind_some, zk (by omega)]
  cases goodV recs x <;> rfl
 ·show qal_B0 n l (lenI l) (l.length : Int) recs = _
  unfold qal_B0
  rw [zd, decide_eq_false (by omega), cond_false]
theorem zdA {α : Type} (p : α → Bool) (l : List α) : (!l.any fun t => !p t) = l.all p := by
 induction l with
 | nil => rfl
 | cons x l ih => rw [List.any_cons, List.all_cons, ← ih]; cases p x <;> simp
theorem zob (n : Nat) (l : List TyD) (recs most : Int) (hl : l.length ≤ 4294967000) (hn : l.length < n) : qbr n l recs most = some (goodsV recs most l) := by
 unfold qbr goodsV
 rw [zd, findType n l recs hl hn, Option.bind_some]
 show (bif decide ((l.length : Int) ≤ most) then some (!l.any fun t => !goodV recs t) else some false) = _
 rw [zdA]
 cases decide ((l.length : Int) ≤ most) <;> rfl
theorem zdE (n : Nat) (l : List TyD) (recs most : Int) (hm : most ≤ 64) (hn : 100 ≤ n) : qbr n l recs most = some (goodsV recs most l) := by
 by_cases h : (l.length : Int) ≤ most
 ·exact zob n l recs most (by omega) (by omega)
 ·unfold qbr goodsV
  rw [zd, decide_eq_false h, cond_false]
  rfl
theorem findTypes (n : Nat) (l : List (List TyD)) (recs : Int) (hl : l.length ≤ 64) (hn : 100 ≤ n) : qh n l recs = some (l.any (fun t => !goodsV recs 6 t), recs) := by
 unfold qh qaa
 have h := zab (B := fun s => qaa_B0 n s.1.1 s.1.2.1 s.1.2.2 s.2) (xs := l) (mk := fun i => ((l, (lenI l, (i : Int))), recs)) (p := fun t => !goodsV recs 6 t) (found := fun i x => Sum.inl ((i : Int), recs)) (e := Sum.inr recs)
  (fun i x hx => ?_) ?_ l.length 0 n (by omega) (by omega)
 ·rw [List.drop_zero] at h
  rcases h with ⟨h1, k, x, _, _, h2⟩ | ⟨h1, h2⟩
  ·rw [show qaa_W0 n ((l, (lenI l, 0)), recs) = some (Sum.inl ((k : Int), recs)) from h2, h1]
   show some (decide ((k : Int) ≥ 0), recs) = _
   rw [decide_eq_true (by omega)]
  ·rw [show qaa_W0 n ((l, (lenI l, 0)), recs) = some (Sum.inr recs) from h2, h1]
   rfl
 ·have hi := zj hx
  show qaa_B0 n l (lenI l) (i : Int) recs = _
  unfold qaa_B0 qbm
  rw [zd, decide_eq_true (by omega), cond_true, zn, hx, Option.bind_some, zdE n x recs 6 (by omega) hn, Option.bind_some, Option.bind_some, zk (by omega)]
  cases goodsV recs 6 x <;> rfl
 ·show qaa_B0 n l (lenI l) (l.length : Int) recs = _
  unfold qaa_B0
  rw [zd, decide_eq_false (by omega), cond_false]
theorem findInstr (n : Nat) (l : List InD) (hl : l.length ≤ 64) (hn : 100 ≤ n) : qj n l = some (l.any badI) := by
 unfold qj qah
 have h := zab (B := fun s => qah_B0 n s.1 s.2.1 s.2.2) (xs := l) (mk := fun i => (l, (lenI l, (i : Int)))) (p := badI) (found := fun i x => Sum.inl (i : Int)) (e := Sum.inr ())
  (fun i x hx => ?_) ?_ l.length 0 n (by omega) (by omega)
 ·rw [List.drop_zero] at h
  rcases h with ⟨h1, k, x, _, _, h2⟩ | ⟨h1, h2⟩
  ·rw [show qah_W0 n (l, (lenI l, 0)) = some (Sum.inl (k : Int)) from h2, h1]
   show some (decide ((k : Int) ≥ 0)) = _
   rw [decide_eq_true (by omega)]
  ·rw [show qah_W0 n (l, (lenI l, 0)) = some (Sum.inr ()) from h2, h1]
   rfl
 ·have hi := zj hx
  show qah_B0 n l (lenI l) (i : Int) = _
  unfold qah_B0 qaj
  rw [zd, decide_eq_true (by omega), cond_true, zn, hx, Option.bind_some, qcr_eq n x (by omega), Option.bind_some, Option.bind_some, zk (by omega), zd]
  have : (((putV x).length : Int) == 0) = badI x := by
   rw [← zkV]
   cases (putV x).length <;> rfl
  rw [this]
  cases badI x <;> rfl
 ·show qah_B0 n l (lenI l) (l.length : Int) = _
  unfold qah_B0
  rw [zd, decide_eq_false (by omega), cond_false]
def fitF (recs : Int) (f : FnD) : Bool :=
 goodsV recs 4 f.1 && (goodV recs (f.2.1, f.2.2.1) && (goodsV recs (8 - (f.1.length : Int)) f.2.2.2.1 && (decide (1 ≤ f.2.2.2.2.length) && (decide (f.2.2.2.2.length ≤ 64) && !f.2.2.2.2.any badI))))
theorem zoT (n : Nat) (f : FnD) (recs : Int) (hn : 100 ≤ n) : qas n f.1 f.2.1 f.2.2.1 f.2.2.2.1 f.2.2.2.2 recs = some (fitF recs f) := by
 obtain ⟨a, k, m, l, c⟩ := f
 unfold qas fitF
 rw [zdE n a recs 4 (by omega) hn, Option.bind_some]
 simp only []
 cases hg : goodsV recs 4 a with
 | false => rfl
 | true =>
  have ha : (a.length : Int) ≤ 4 := by
   simp only [goodsV, Bool.and_eq_true, decide_eq_true_eq] at hg
   exact hg.1
  rw [cond_true, zfm n (k, m) recs, Option.bind_some]
  cases goodV recs (k, m) with
  | false => rfl
  | true =>
   rw [cond_true, zd, zkR (by omega) (by omega), zdE n l recs _ (by omega) hn, Option.bind_some]
   cases goodsV recs (8 - (a.length : Int)) l with
   | false => rfl
   | true =>
    rw [cond_true, zd]
    by_cases h1 : 1 ≤ c.length
    ·rw [decide_eq_true (by omega), cond_true, decide_eq_true h1]
     by_cases h2 : c.length ≤ 64
     ·rw [decide_eq_true (by omega), cond_true, decide_eq_true h2, findInstr n c h2 hn, Option.bind_some]
      simp
     ·rw [decide_eq_false (by omega), cond_false, decide_eq_false h2]
      rfl
    ·rw [decide_eq_false (by omega), cond_false, decide_eq_false h1]
     rfl
theorem findFunc (n : Nat) (l : List FnD) (recs : Int) (hl : l.length ≤ 64) (hn : 100 ≤ n) : qs n l recs = some (l.any (fun t => !fitF recs t), recs) := by
 unfold qs qak
 have h := zab (B := fun s => qak_B0 n s.1.1 s.1.2.1 s.1.2.2 s.2) (xs := l) (mk := fun i => ((l, (lenI l, (i : Int))), recs)) (p := fun t => !fitF recs t) (found := fun i x => Sum.inl ((i : Int), recs)) (e := Sum.inr recs)
  (fun i x hx => ?_) ?_ l.length 0 n (by omega) (by omega)
 ·rw [List.drop_zero] at h
  rcases h with ⟨h1, k, x, _, _, h2⟩ | ⟨h1, h2⟩
  ·rw [show qak_W0 n ((l, (lenI l, 0)), recs) = some (Sum.inl ((k : Int), recs)) from h2, h1]
   show some (decide ((k : Int) ≥ 0), recs) = _
   rw [decide_eq_true (by omega)]
  ·rw [show qak_W0 n ((l, (lenI l, 0)), recs) = some (Sum.inr recs) from h2, h1]
   rfl
 ·have hi := zj hx
  show qak_B0 n l (lenI l) (i : Int) recs = _
  unfold qak_B0 qbo
  rw [zd, decide_eq_true (by omega), cond_true, zn, hx, Option.bind_some, zoT n x recs hn, Option.bind_some, Option.bind_some, zk (by omega)]
  cases fitF recs x <;> rfl
 ·show qak_B0 n l (lenI l) (l.length : Int) recs = _
  unfold qak_B0
  rw [zd, decide_eq_false (by omega), cond_false]
def fitI (recs : Int) (i : ImD) : Bool := goodsV recs 4 i.1 && goodV recs (i.2.1, i.2.2)
theorem findImport (n : Nat) (l : List ImD) (recs : Int) (hl : l.length ≤ 64) (hn : 100 ≤ n) : qe n l recs = some (l.any (fun t => !fitI recs t), recs) := by
 unfold qe qag
 have h := zab (B := fun s => qag_B0 n s.1.1 s.1.2.1 s.1.2.2 s.2) (xs := l) (mk := fun i => ((l, (lenI l, (i : Int))), recs)) (p := fun t => !fitI recs t) (found := fun i x => Sum.inl ((i : Int), recs)) (e := Sum.inr recs)
  (fun i x hx => ?_) ?_ l.length 0 n (by omega) (by omega)
 ·rw [List.drop_zero] at h
  rcases h with ⟨h1, k, x, _, _, h2⟩ | ⟨h1, h2⟩
  ·rw [show qag_W0 n ((l, (lenI l, 0)), recs) = some (Sum.inl ((k : Int), recs)) from h2, h1]
   show some (decide ((k : Int) ≥ 0), recs) = _
   rw [decide_eq_true (by omega)]
  ·rw [show qag_W0 n ((l, (lenI l, 0)), recs) = some (Sum.inr recs) from h2, h1]
   rfl
 ·have hi := zj hx
  show qag_B0 n l (lenI l) (i : Int) recs = _
  unfold qag_B0 qbi
  rw [zd, decide_eq_true (by omega), cond_true, zn, hx, Option.bind_some, zdE n x.1 recs 4 (by omega) hn, Option.bind_some, zk (by omega)]
  unfold fitI
  cases goodsV recs 4 x.1 with
  | false => rfl
  | true =>
   rw [Bool.not_true, cond_false, zfm n (x.2.1, x.2.2) recs, Option.bind_some, Option.bind_some]
   cases goodV recs (x.2.1, x.2.2) <;> rfl
 ·show qag_B0 n l (lenI l) (l.length : Int) recs = _
  unfold qag_B0
  rw [zd, decide_eq_false (by omega), cond_false]
theorem findString (n : Nat) (l : List ByteArray) (hl : l.length ≤ 64) (hn : 100 ≤ n) : qf n l = some (l.any (fun s => decide (s.size > 32))) := by
 unfold qf qae
 have h := zab (B := fun s => qae_B0 n s.1 s.2.1 s.2.2) (xs := l) (mk := fun i => (l, (lenI l, (i : Int)))) (p := fun s => decide (s.size > 32)) (found := fun i x => Sum.inl (i : Int)) (e := Sum.inr ())
  (fun i x hx => ?_) ?_ l.length 0 n (by omega) (by omega)
 ·rw [List.drop_zero] at h
  rcases h with ⟨h1, k, x, _, _, h2⟩ | ⟨h1, h2⟩
  ·rw [show qae_W0 n (l, (lenI l, 0)) = some (Sum.inl (k : Int)) from h2, h1]
   show some (decide ((k : Int) ≥ 0)) = _
   rw [decide_eq_true (by omega)]
  ·rw [show qae_W0 n (l, (lenI l, 0)) = some (Sum.inr ()) from h2, h1]
   rfl
 ·have hi := zj hx
  show qae_B0 n l (lenI l) (i : Int) = _
  unfold qae_B0 qbq
  rw [zd, decide_eq_true (by omega), cond_true, zn, hx, Option.bind_some, Option.bind_some, zk (by omega)]
  have : decide (lenS x > 32) = decide (x.size > 32) := by
   unfold lenS
   by_cases h : x.size > 32
   ·rw [decide_eq_true h, decide_eq_true (by omega)]
   ·rw [decide_eq_false h, decide_eq_false (by omega)]
  rw [this]
  cases decide (x.size > 32) <;> rfl
 ·show qae_B0 n l (lenI l) (l.length : Int) = _
  unfold qae_B0
  rw [zd, decide_eq_false (by omega), cond_false]
structure ModD where
 recs : List (List TyD)
 funcs : List FnD
 imps : List ImD
 ints : List Int
 texts : List ByteArray
def fitsV (m : ModD) : Bool :=
 decide (m.recs.length ≤ 8) && (m.recs.all (goodsV m.recs.length 6) && (decide (1 ≤ m.funcs.length) && (decide (m.funcs.length ≤ 8) && (m.funcs.all (fitF m.recs.length) &&
  (decide (m.imps.length ≤ 8) && (m.imps.all (fitI m.recs.length) && (decide (m.ints.length ≤ 16) && (decide (m.texts.length ≤ 16) && m.texts.all fun s => decide (s.size ≤ 32)))))))))
theorem zpc (l : List ByteArray) : (!l.any fun s => decide (s.size > 32)) = l.all fun s => decide (s.size ≤ 32) := by
 rw [← zdA]
 congr 2
 funext s
 by_cases h : s.size > 32
 ·rw [decide_eq_true h, decide_eq_false (by omega)]; rfl
 ·rw [decide_eq_false h, decide_eq_true (by omega)]; rfl
theorem zoQ (n : Nat) (m : ModD) (hn : 100 ≤ n) : qbu n m.recs m.funcs m.imps m.ints m.texts = some (fitsV m) := by
 unfold qbu fitsV
 rw [zd m.recs, zd m.funcs, zd m.imps, zd m.ints, zd m.texts]
 by_cases h1 : m.recs.length ≤ 8
 ·rw [decide_eq_true (by omega : (m.recs.length : Int) ≤ 8), cond_true, decide_eq_true h1, findTypes n m.recs _ (by omega) hn, Option.bind_some, zdA, Bool.true_and]
  cases m.recs.all (goodsV m.recs.length 6) with
  | false => rfl
  | true =>
   rw [cond_true, Bool.true_and]
   by_cases h2 : 1 ≤ m.funcs.length
   ·rw [decide_eq_true (by omega : (m.funcs.length : Int) ≥ 1), cond_true, decide_eq_true h2, Bool.true_and]
    by_cases h3 : m.funcs.length ≤ 8
    ·rw [decide_eq_true (by omega : (m.funcs.length : Int) ≤ 8), cond_true, decide_eq_true h3, findFunc n m.funcs _ (by omega) hn, Option.bind_some, zdA, Bool.true_and]
     cases m.funcs.all (fitF m.recs.length) with
     | false => rfl
     | true =>
      rw [cond_true, Bool.true_and]
      by_cases h4 : m.imps.length ≤ 8
      ·rw [decide_eq_true (by omega : (m.imps.length : Int) ≤ 8), cond_true, decide_eq_true h4, findImport n m.imps _ (by omega) hn, Option.bind_some, zdA, Bool.true_and]
       cases m.imps.all (fitI m.recs.length) with
       | false => rfl
       | true =>
        rw [cond_true, Bool.true_and]
        by_cases h5 : m.ints.length ≤ 16
        ·rw [decide_eq_true (by omega : (m.ints.length : Int) ≤ 16), cond_true, decide_eq_true h5, Bool.true_and]
         by_cases h6 : m.texts.length ≤ 16
         ·rw [decide_eq_true (by omega : (m.texts.length : Int) ≤ 16), cond_true, decide_eq_true h6, Bool.true_and, findString n m.texts (by omega) hn, Option.bind_some, zpc]
         ·rw [decide_eq_false (by omega : ¬ (m.texts.length : Int) ≤ 16), cond_false, decide_eq_false h6]; rfl
        ·rw [decide_eq_false (by omega : ¬ (m.ints.length : Int) ≤ 16), cond_false, decide_eq_false h5]; rfl
      ·rw [decide_eq_false (by omega : ¬ (m.imps.length : Int) ≤ 8), cond_false, decide_eq_false h4]; rfl
    ·rw [decide_eq_false (by omega : ¬ (m.funcs.length : Int) ≤ 8), cond_false, decide_eq_false h3]; rfl
   ·rw [decide_eq_false (by omega : ¬ (m.funcs.length : Int) ≥ 1), cond_false, decide_eq_false h2]; rfl
 ·rw [decide_eq_false (by omega : ¬ (m.recs.length : Int) ≤ 8), cond_false, decide_eq_false h1]; rfl
end Sx
end
section
/- The bytes of a module, as the program writes them. -/
set_option linter.unusedVariables false
set_option linter.unusedSimpArgs false
namespace Sx
open Go Go.Ab
def okTs (l : List TyD) : Prop := ∀ t ∈ l, okT t
structure OkM (m : ModD) : Prop where
 recs : ∀ l ∈ m.recs, okTs l
 funcs : ∀ f ∈ m.funcs, okTs f.1 ∧ okT (f.2.1, f.2.2.1) ∧ okTs f.2.2.2.1
 imps : ∀ i ∈ m.imps, okTs i.1 ∧ okT (i.2.1, i.2.2)
 ints : ∀ v ∈ m.ints, 0 ≤ v ∧ v ≤ 18446744073709551615
def typesV (l : List TyD) : List Int := varN l.length ++ l.flatMap typV
theorem zag (l : List TyD) : (typesV l).length ≤ 11 + 22 * l.length := by
 have := zg l.length
 have := zy typV 22 l fun t _ => zah t
 rw [typesV, List.length_append]; omega
def fncV (f : FnD) : List Int := typesV f.1 ++ typV (f.2.1, f.2.2.1) ++ typesV f.2.2.2.1 ++ varN f.2.2.2.2.length ++ f.2.2.2.2.flatMap putV
def impV (i : ImD) : List Int := typesV i.1 ++ typV (i.2.1, i.2.2)
def txtV (s : ByteArray) : List Int := varN s.size ++ bytesInts s
def listV {α : Type} (f : α → List Int) (l : List α) : List Int := varN l.length ++ l.flatMap f
def joinV (l : List (List Int)) : List Int := listV (fun p => varN p.length ++ p) l
def encV (m : ModD) : List Int := joinV [listV typesV m.recs, listV fncV m.funcs, listV impV m.imps, listV (fun v => fixN 8 v.toNat) m.ints, listV txtV m.texts]
theorem zdh (n k : Nat) (hk : k ≤ 4294967000) (hn : 20 ≤ n) : qm n (k : Int) = some (varN k) := by
 unfold qm
 have := zg k
 rw [zB (by omega) (by omega), qcs_eq n k (by omega) hn, Option.bind_some, zo (by omega), cond_true]
theorem zfy (n k : Nat) (m1 : List Int) (hk : k ≤ 4294967000) (hm : m1.length ≤ 4294900000) (hn : 20 ≤ n) : qc n (k : Int) m1 = some (m1 ++ varN k) := by
 unfold qc
 have := zg k
 rw [zB (by omega) (by omega), qcs_eq n k (by omega) hn, Option.bind_some, zo (by rw [List.length_append]; omega), cond_true]
theorem zdJ (n : Nat) (l : List TyD) (m1 : List Int) (ho : okTs l) (hl : l.length ≤ 100) (hm : m1.length ≤ 4294000000) (hn : 200 ≤ n) : qi n l m1 = some (m1 ++ typesV l) := by
 unfold qi
 have hv := zg l.length
 rw [zd, zfy n _ m1 (by omega) (by omega) (by omega), Option.bind_some]
 have h := zQ (B := fun s => qi_B0 n s.1.1 s.1.2.1 s.1.2.2 s.2) (xs := l) (mk := fun i a => ((l, ((l.length : Int), (i : Int))), a)) (f := typV) (e := id) (c := 22) (m0 := m1 ++ varN l.length) (cap := 4294967296)
  (fun x _ => zah x) (by rw [List.length_append]; omega) (fun i a x hx hmem ha => ?_) (fun a => ?_) (n := n) (by omega)
 ·rw [show qi_W0 n ((l, ((l.length : Int), 0)), m1 ++ varN l.length) = _ from h, Option.bind_some, id, List.append_assoc]
  rfl
 ·have hi := zj hx
  show qi_B0 n l (l.length : Int) (i : Int) a = _
  unfold qi_B0
  rw [decide_eq_true (by omega), cond_true, zn, hx, Option.bind_some, qcp_eq n x (ho x hmem) (by omega), Option.bind_some, zo (by rw [List.length_append]; omega), cond_true, zk (by omega)]
 ·show qi_B0 n l (l.length : Int) (l.length : Int) a = _
  unfold qi_B0
  rw [decide_eq_false (by omega), cond_false]; rfl
theorem zaE {recs most : Int} {l : List TyD} (h : goodsV recs most l = true) : (l.length : Int) ≤ most := by
 simp only [goodsV, Bool.and_eq_true, decide_eq_true_eq] at h
 exact h.1
theorem zct (n : Nat) (m : ModD) (ho : OkM m) (hf : fitsV m = true) (hn : 200 ≤ n) : qaq n m.recs m.funcs m.imps m.ints m.texts = some (listV typesV m.recs) ∧ (listV typesV m.recs).length ≤ 2000 := by
 simp only [fitsV, Bool.and_eq_true, decide_eq_true_eq, List.all_eq_true] at hf
 obtain ⟨h1, h2, _⟩ := hf
 have hc : ∀ x ∈ m.recs, (typesV x).length ≤ 143 := fun x hx => by
  have := zag x
  have := zaE (h2 x hx)
  omega
 have hv := zg m.recs.length
 refine ⟨?_, by have := zy typesV 143 m.recs hc; rw [listV, List.length_append]; omega⟩
 unfold qaq
 rw [zd, zdh n _ (by omega) (by omega), Option.bind_some]
 have h := zQ (B := fun s => qaq_B0 n s.1.1 s.1.2.1 s.1.2.2 s.2) (xs := m.recs) (mk := fun i a => ((m.recs, ((m.recs.length : Int), (i : Int))), a)) (f := typesV) (e := id) (c := 143) (m0 := varN m.recs.length) (cap := 4000)
  hc (by omega) (fun i a x hx hmem ha => ?_) (fun a => ?_) (n := n) (by omega)
 ·rw [show qaq_W0 n ((m.recs, ((m.recs.length : Int), 0)), varN m.recs.length) = _ from h, Option.bind_some]
  rfl
 ·have hi := zj hx
  show qaq_B0 n m.recs (m.recs.length : Int) (i : Int) a = _
  unfold qaq_B0
  have := zaE (h2 x hmem)
  rw [decide_eq_true (by omega), cond_true, zn, hx, Option.bind_some, zdJ n x a (ho.recs x hmem) (by omega) (by omega) hn, Option.bind_some, zk (by omega)]
 ·show qaq_B0 n m.recs (m.recs.length : Int) (m.recs.length : Int) a = _
  unfold qaq_B0
  rw [decide_eq_false (by omega), cond_false]; rfl
theorem zdr {recs : Int} {f : FnD} (h : fitF recs f = true) : f.1.length ≤ 4 ∧ f.2.2.2.1.length ≤ 8 ∧ 1 ≤ f.2.2.2.2.length ∧ f.2.2.2.2.length ≤ 64 ∧ (fncV f).length ≤ 1900 := by
 simp only [fitF, Bool.and_eq_true, decide_eq_true_eq] at h
 obtain ⟨h1, _, h3, h4, h5, _⟩ := h
 have h1 := zaE h1
 have h3 := zaE h3
 have := zag f.1
 have := zag f.2.2.2.1
 have := zah (f.2.1, f.2.2.1)
 have := zg f.2.2.2.2.length
 have := zy putV 23 f.2.2.2.2 fun i _ => zdd i
 refine ⟨by omega, by omega, h4, h5, ?_⟩
 simp only [fncV, List.length_append]
 omega
theorem zbp (n : Nat) (m : ModD) (ho : OkM m) (hf : fitsV m = true) (hn : 200 ≤ n) : qab n m.recs m.funcs m.imps m.ints m.texts = some (listV fncV m.funcs) ∧ (listV fncV m.funcs).length ≤ 20000 := by
 simp only [fitsV, Bool.and_eq_true, decide_eq_true_eq, List.all_eq_true] at hf
 obtain ⟨_, _, h0, h1, h2, _⟩ := hf
 have hc : ∀ x ∈ m.funcs, (fncV x).length ≤ 1900 := fun x hx => (zdr (h2 x hx)).2.2.2.2
 have hv := zg m.funcs.length
 refine ⟨?_, by have := zy fncV 1900 m.funcs hc; rw [listV, List.length_append]; omega⟩
 unfold qab
 rw [zd, zdh n _ (by omega) (by omega), Option.bind_some]
 have h := zQ (B := fun s => qab_B0 n s.1.1 s.1.2.1 s.1.2.2 s.2) (xs := m.funcs) (mk := fun i a => ((m.funcs, ((m.funcs.length : Int), (i : Int))), a)) (f := fncV) (e := id) (c := 1900) (m0 := varN m.funcs.length) (cap := 40000)
  hc (by omega) (fun i a x hx hmem ha => ?_) (fun a => ?_) (n := n) (by omega)
 ·rw [show qab_W0 n ((m.funcs, ((m.funcs.length : Int), 0)), varN m.funcs.length) = _ from h, Option.bind_some]
  rfl
 ·have hi := zj hx
  obtain ⟨l1, l2, l3, l4, _⟩ := zdr (h2 x hmem)
  obtain ⟨o1, o2, o3⟩ := ho.funcs x hmem
  obtain ⟨ar, k, nn, lo, co⟩ := x
  have t1 := zag ar
  have t2 := zag lo
  have t3 := zah (k, nn)
  have t4 := zg co.length
  have t5 := zy putV 23 co fun i _ => zdd i
  simp only at l1 l2 l3 l4 o1 o2 o3
  show qab_B0 n m.funcs (m.funcs.length : Int) (i : Int) a = _
  unfold qab_B0
  rw [decide_eq_true (by omega), cond_true, zn, hx, Option.bind_some]
  simp only []
  rw [zdJ n ar a o1 (by omega) (by omega) hn, Option.bind_some, qcp_eq n (k, nn) o2 (by omega), Option.bind_some, zo (by simp only [List.length_append]; omega), cond_true, zdJ n lo _ o3 (by omega) (by simp only [List.length_append]; omega) hn, Option.bind_some,
   zd, zfy n _ _ (by omega) (by simp only [List.length_append]; omega) (by omega), Option.bind_some]
  have hin := zQ (B := fun s => qab_B2 n s.1.1 s.1.2.1 s.1.2.2.1 s.1.2.2.2.1 s.1.2.2.2.2.1 s.1.2.2.2.2.2 s.2) (xs := co) (mk := fun j b => ((m.funcs, ((m.funcs.length : Int), ((i : Int), (co, ((co.length : Int), (j : Int)))))), b)) (f := putV)
   (e := fun b => ((m.funcs, ((m.funcs.length : Int), (i : Int))), b)) (c := 23) (m0 := a ++ typesV ar ++ typV (k, nn) ++ typesV lo ++ varN co.length) (cap := 4294967296) (fun y _ => zdd y) (by simp only [List.length_append]; omega) (fun j b y hy hmy hb => ?_) (fun b => ?_) (n := n) (by omega)
  ·rw [show qab_W2 n ((m.funcs, ((m.funcs.length : Int), ((i : Int), (co, ((co.length : Int), 0))))), a ++ typesV ar ++ typV (k, nn) ++ typesV lo ++ varN co.length) = _ from hin, Option.bind_some]
   simp only []
   rw [zk (by omega)]
   simp only [fncV, List.append_assoc]
  ·have hj := zj hy
   show qab_B2 n m.funcs (m.funcs.length : Int) (i : Int) co (co.length : Int) (j : Int) b = _
   unfold qab_B2
   rw [decide_eq_true (by omega), cond_true, zn, hy, Option.bind_some, qcr_eq n y (by omega), Option.bind_some, zo (by rw [List.length_append]; omega), cond_true, zk (by omega)]
  ·show qab_B2 n m.funcs (m.funcs.length : Int) (i : Int) co (co.length : Int) (co.length : Int) b = _
   unfold qab_B2
   rw [decide_eq_false (by omega), cond_false]
 ·show qab_B0 n m.funcs (m.funcs.length : Int) (m.funcs.length : Int) a = _
  unfold qab_B0
  rw [decide_eq_false (by omega), cond_false]; rfl
theorem zhB {recs : Int} {f : ImD} (h : fitI recs f = true) : f.1.length ≤ 4 ∧ (impV f).length ≤ 130 := by
 simp only [fitI, Bool.and_eq_true] at h
 have h1 := zaE h.1
 have := zag f.1
 have := zah (f.2.1, f.2.2)
 refine ⟨by omega, ?_⟩
 rw [impV, List.length_append]; omega
theorem zcA (n : Nat) (m : ModD) (ho : OkM m) (hf : fitsV m = true) (hn : 200 ≤ n) : qam n m.recs m.funcs m.imps m.ints m.texts = some (listV impV m.imps) ∧ (listV impV m.imps).length ≤ 2000 := by
 simp only [fitsV, Bool.and_eq_true, decide_eq_true_eq, List.all_eq_true] at hf
 obtain ⟨_, _, _, _, _, h1, h2, _⟩ := hf
 have hc : ∀ x ∈ m.imps, (impV x).length ≤ 130 := fun x hx => (zhB (h2 x hx)).2
 have hv := zg m.imps.length
 refine ⟨?_, by have := zy impV 130 m.imps hc; rw [listV, List.length_append]; omega⟩
 unfold qam
 rw [zd, zdh n _ (by omega) (by omega), Option.bind_some]
 have h := zQ (B := fun s => qam_B0 n s.1.1 s.1.2.1 s.1.2.2 s.2) (xs := m.imps) (mk := fun i a => ((m.imps, ((m.imps.length : Int), (i : Int))), a)) (f := impV) (e := id) (c := 130) (m0 := varN m.imps.length) (cap := 40000)
  hc (by omega) (fun i a x hx hmem ha => ?_) (fun a => ?_) (n := n) (by omega)
 ·rw [show qam_W0 n ((m.imps, ((m.imps.length : Int), 0)), varN m.imps.length) = _ from h, Option.bind_some]
  rfl
 ·have hi := zj hx
  obtain ⟨l1, _⟩ := zhB (h2 x hmem)
  obtain ⟨o1, o2⟩ := ho.imps x hmem
  obtain ⟨ar, k, nn⟩ := x
  have t1 := zag ar
  have t3 := zah (k, nn)
  simp only at l1 o1 o2
  show qam_B0 n m.imps (m.imps.length : Int) (i : Int) a = _
  unfold qam_B0
  rw [decide_eq_true (by omega), cond_true, zn, hx, Option.bind_some]
  simp only []
  rw [zdJ n ar a o1 (by omega) (by omega) hn, Option.bind_some, qcp_eq n (k, nn) o2 (by omega), Option.bind_some, zo (by simp only [List.length_append]; omega), cond_true, zk (by omega)]
  simp only [impV, List.append_assoc]
 ·show qam_B0 n m.imps (m.imps.length : Int) (m.imps.length : Int) a = _
  unfold qam_B0
  rw [decide_eq_false (by omega), cond_false]; rfl
theorem zoq (n : Nat) (v : Nat) (hv : v < 18446744073709551616) (hn : 20 ≤ n) : qcm n (v : Int) 8 = some (fixN 8 v) := by
 have h := zQ (B := fun s => qcm_B0 n s.1.1 s.1.2.1 s.1.2.2 s.2) (xs := List.range 8) (mk := fun i a => (((v : Int), ((8 : Int), (i : Int))), a)) (f := fun j => [((v / 256 ^ j % 256 : Nat) : Int)]) (e := id) (c := 1) (m0 := []) (cap := 100)
  (fun x _ => by simp) (by simp) (fun i a x hx hmem ha => ?_) (fun a => ?_) (n := n) (by simp; omega)
 ·unfold qcm
  rw [show qcm_W0 n (((v : Int), ((minI (maxI 8 0) 8), 0)), []) = _ from h, Option.bind_some]
  have e : ∀ l : List Nat, l.flatMap (fun j => [((v / 256 ^ j % 256 : Nat) : Int)]) = l.map fun j => ((v / 256 ^ j % 256 : Nat) : Int) := by
   intro l
   induction l with
   | nil => rfl
   | cons x l ih => rw [List.flatMap_cons, ih]; rfl
  rw [e]; rfl
 ·have hi := zj hx
  rw [List.length_range] at hi
  rw [List.getElem?_range hi] at hx
  obtain rfl := Option.some.inj hx
  show qcm_B0 n (v : Int) 8 (i : Int) a = _
  unfold qcm_B0
  have hb : cvtI .u8 (shrI .u64 (v : Int) (mulI .i64 8 (i : Int))) = ((v / 256 ^ i % 256 : Nat) : Int) := by
   rw [zkz (by omega) (by omega), zfP]
   show ((v : Int).fdiv (2 ^ (min (8 * (i : Int)).toNat 64))) % 256 = _
   rw [show min (8 * (i : Int)).toNat 64 = 8 * i by omega, show ((2 : Int) ^ (8 * i)) = ((256 ^ i : Nat) : Int) by rw [show (256 : Nat) = 2 ^ 8 from rfl, ← Nat.pow_mul]; simp,
    Int.fdiv_eq_ediv_of_nonneg _ (Int.natCast_nonneg _), ← Int.natCast_ediv]
   omega
  rw [decide_eq_true (by omega), cond_true, hb, zkz (by omega) (by omega), decide_eq_true (by omega), cond_true, zo (by simp at ha ⊢; omega), cond_true, zk (by omega)]
 ·show qcm_B0 n (v : Int) 8 8 a = _
  rfl
theorem zcC (n : Nat) (m : ModD) (ho : OkM m) (hf : fitsV m = true) (hn : 200 ≤ n) : qav n m.recs m.funcs m.imps m.ints m.texts = some (listV (fun v => fixN 8 v.toNat) m.ints) ∧ (listV (fun v : Int => fixN 8 v.toNat) m.ints).length ≤ 2000 := by
 simp only [fitsV, Bool.and_eq_true, decide_eq_true_eq, List.all_eq_true] at hf
 obtain ⟨_, _, _, _, _, _, _, h1, _⟩ := hf
 have hc : ∀ x ∈ m.ints, (fixN 8 x.toNat).length ≤ 8 := fun x hx => by rw [zbj]; omega
 have hv := zg m.ints.length
 refine ⟨?_, by have := zy (fun v : Int => fixN 8 v.toNat) 8 m.ints hc; rw [listV, List.length_append]; omega⟩
 unfold qav
 rw [zd, zdh n _ (by omega) (by omega), Option.bind_some]
 have h := zQ (B := fun s => qav_B0 n s.1.1 s.1.2.1 s.1.2.2 s.2) (xs := m.ints) (mk := fun i a => ((m.ints, ((m.ints.length : Int), (i : Int))), a)) (f := fun v => fixN 8 v.toNat) (e := id) (c := 8) (m0 := varN m.ints.length) (cap := 40000)
  hc (by omega) (fun i a x hx hmem ha => ?_) (fun a => ?_) (n := n) (by omega)
 ·rw [show qav_W0 n ((m.ints, ((m.ints.length : Int), 0)), varN m.ints.length) = _ from h, Option.bind_some]
  rfl
 ·have hi := zj hx
  have hxr := ho.ints x hmem
  obtain ⟨u, rfl⟩ : ∃ u : Nat, x = (u : Int) := ⟨x.toNat, by omega⟩
  show qav_B0 n m.ints (m.ints.length : Int) (i : Int) a = _
  unfold qav_B0
  rw [zbj] at ha
  rw [decide_eq_true (by omega), cond_true, zn, hx, Option.bind_some, zoq n u (by omega) (by omega), Option.bind_some, zo (by rw [List.length_append, zbj]; omega), cond_true, zk (by omega), Int.toNat_natCast]
 ·show qav_B0 n m.ints (m.ints.length : Int) (m.ints.length : Int) a = _
  unfold qav_B0
  rw [decide_eq_false (by omega), cond_false]; rfl
theorem zaC (s : ByteArray) : (bytesInts s).length = s.size := by
 unfold bytesInts
 rw [List.length_map, Array.length_toList]; rfl
theorem zfl (n : Nat) (m : ModD) (hf : fitsV m = true) (hn : 200 ≤ n) : qbn n m.recs m.funcs m.imps m.ints m.texts = some (listV txtV m.texts) ∧ (listV txtV m.texts).length ≤ 2000 := by
 simp only [fitsV, Bool.and_eq_true, decide_eq_true_eq, List.all_eq_true] at hf
 obtain ⟨_, _, _, _, _, _, _, _, h1, h2⟩ := hf
 have hc : ∀ x ∈ m.texts, (txtV x).length ≤ 43 := fun x hx => by
  have := zg x.size
  have := h2 x hx
  rw [txtV, List.length_append, zaC]; omega
 have hv := zg m.texts.length
 refine ⟨?_, by have := zy txtV 43 m.texts hc; rw [listV, List.length_append]; omega⟩
 unfold qbn
 rw [zd, zdh n _ (by omega) (by omega), Option.bind_some]
 have h := zQ (B := fun s => qbn_B0 n s.1.1 s.1.2.1 s.1.2.2 s.2) (xs := m.texts) (mk := fun i a => ((m.texts, ((m.texts.length : Int), (i : Int))), a)) (f := txtV) (e := id) (c := 43) (m0 := varN m.texts.length) (cap := 40000)
  hc (by omega) (fun i a x hx hmem ha => ?_) (fun a => ?_) (n := n) (by omega)
 ·rw [show qbn_W0 n ((m.texts, ((m.texts.length : Int), 0)), varN m.texts.length) = _ from h, Option.bind_some]
  rfl
 ·have hi := zj hx
  have hs := h2 x hmem
  have hvx := zg x.size
  show qbn_B0 n m.texts (m.texts.length : Int) (i : Int) a = _
  unfold qbn_B0
  rw [decide_eq_true (by omega), cond_true, zn, hx, Option.bind_some, show lenS x = ((x.size : Nat) : Int) from rfl, zfy n _ a (by omega) (by omega) (by omega), Option.bind_some, zo (by simp only [List.length_append, zaC]; omega), cond_true, zk (by omega), List.append_assoc]
  rfl
 ·show qbn_B0 n m.texts (m.texts.length : Int) (m.texts.length : Int) a = _
  unfold qbn_B0
  rw [decide_eq_false (by omega), cond_false]; rfl
theorem zoD (n : Nat) (l : List (List Int)) (hl : l.length ≤ 100) (hc : ∀ x ∈ l, x.length ≤ 1000000) (hn : 200 ≤ n) : qcj n l = some (joinV l) := by
 have hv := zg l.length
 have hc2 : ∀ x ∈ l, (varN x.length ++ x).length ≤ 1000011 := fun x hx => by
  have := zg x.length
  have := hc x hx
  rw [List.length_append]; omega
 unfold qcj
 rw [zd, zB (by omega) (by omega), qcs_eq n l.length (by omega) (by omega), Option.bind_some]
 have h := zQ (B := fun s => qcj_B0 n s.1.1 s.1.2.1 s.1.2.2 s.2) (xs := l) (mk := fun i a => ((l, ((l.length : Int), (i : Int))), a)) (f := fun p => varN p.length ++ p) (e := id) (c := 1000011) (m0 := varN l.length) (cap := 200000000)
  hc2 (by omega) (fun i a x hx hmem ha => ?_) (fun a => ?_) (n := n) (by omega)
 ·rw [show qcj_W0 n ((l, ((l.length : Int), 0)), varN l.length) = _ from h, Option.bind_some]
  rfl
 ·have hi := zj hx
  have hvx := zg x.length
  have hxl := hc x hmem
  rw [List.length_append] at ha
  show qcj_B0 n l (l.length : Int) (i : Int) a = _
  unfold qcj_B0
  rw [decide_eq_true (by omega), cond_true, zn, hx, Option.bind_some, zd, zB (by omega) (by omega), qcs_eq n x.length (by omega) (by omega), Option.bind_some, zo (by rw [List.length_append]; omega), cond_true, zo (by simp only [List.length_append]; omega), cond_true, zk (by omega), List.append_assoc]
 ·show qcj_B0 n l (l.length : Int) (l.length : Int) a = _
  unfold qcj_B0
  rw [decide_eq_false (by omega), cond_false]; rfl
theorem zfq (n : Nat) (m : ModD) (ho : OkM m) (hn : 200 ≤ n) : qbe n m.recs m.funcs m.imps m.ints m.texts = some (if fitsV m = true then (encV m, 0) else ([], 2)) := by
 unfold qbe
 rw [zoQ n m (by omega), Option.bind_some]
 cases hf : fitsV m with
 | false => rfl
 | true =>
  obtain ⟨e1, l1⟩ := zct n m ho hf hn
  obtain ⟨e2, l2⟩ := zbp n m ho hf hn
  obtain ⟨e3, l3⟩ := zcA n m ho hf hn
  obtain ⟨e4, l4⟩ := zcC n m ho hf hn
  obtain ⟨e5, l5⟩ := zfl n m hf hn
  rw [Bool.not_true, cond_false, e1, Option.bind_some, e2, Option.bind_some, e3, Option.bind_some, e4, Option.bind_some, e5, Option.bind_some, zoD n _ (by simp) ?_ hn, Option.bind_some, if_pos rfl]
  ·rfl
  ·intro x hx
   simp only [List.mem_cons, List.not_mem_nil, or_false] at hx
   rcases hx with rfl | rfl | rfl | rfl | rfl <;> omega
end Sx
end
section
/- The bytes of a module, as the document has them. -/
set_option linter.unusedVariables false
set_option linter.unusedSimpArgs false
namespace Sx
open Go Go.Ab
def typesR (recs most : Int) (l : List TyD) : List Int × Bool := if l.all (goodV recs) = true then (typesV l, decide ((l.length : Int) ≤ most)) else ([], false)
theorem zcf (recs most : Int) (l : List TyD) : (typesR recs most l).2 = goodsV recs most l := by
 unfold typesR goodsV
 cases l.all (goodV recs) <;> simp
theorem zbr {recs most : Int} {l : List TyD} (h : goodsV recs most l = true) : (typesR recs most l).1 = typesV l := by
 simp only [goodsV, Bool.and_eq_true] at h
 unfold typesR
 rw [if_pos h.2]
theorem zcM (recs most : Int) (l : List TyD) : (typesR recs most l).1.length ≤ 11 + 22 * l.length := by
 unfold typesR
 split
 ·exact zag l
 ·simp
theorem zbN (n : Nat) (l : List TyD) (recs most : Int) (ho : okTs l) (hl : l.length ≤ 5000) (hn : 6000 ≤ n) : qbx n l recs most = some (typesR recs most l) := by
 unfold qbx
 have hv := zg l.length
 rw [zd, zB (by omega) (by omega), zN n l.length (by omega) (by omega), Option.bind_some]
 have h := zaB (B := fun s => qbx_B0 n s.1.1 s.1.2.1 s.1.2.2.1 s.1.2.2.2 s.2) (xs := l) (mk := fun i a => ((l, (recs, (most, (i : Int)))), a))
  (I := fun i a => a = varN l.length ++ (l.take i).flatMap typV ∧ (l.take i).all (goodV recs) = true)
  (Q := fun y => (l.all (goodV recs) = true ∧ y = Sum.inr ((l, most), typesV l)) ∨ (l.all (goodV recs) = false ∧ ∃ m, y = Sum.inl (([], false), m)))
  (fun i a x hx hI => ?_) (fun a hI => ?_) l.length 0 n (varN l.length) (by omega) ⟨by simp, rfl⟩ (by omega)
 ·obtain ⟨y, h1, h2⟩ := h
  rw [show qbx_W0 n ((l, (recs, (most, 0))), varN l.length) = some y from h1, Option.bind_some]
  unfold typesR
  rcases h2 with ⟨h3, rfl⟩ | ⟨h3, m, rfl⟩
  ·rw [if_pos h3]; rfl
  ·rw [if_neg (by rw [h3]; simp)]
 ·have hi := zj hx
  obtain ⟨rfl, hg⟩ := hI
  have hfl := zy typV 22 (l.take i) fun t _ => zah t
  have hxl := zah x
  have htl : (l.take i).length = i := by rw [List.length_take]; omega
  have hb : qbx_B0 n l recs most (i : Int) (varN l.length ++ (l.take i).flatMap typV) = (if goodV recs x = true then some (Sum.inl ((l, (recs, (most, ((i + 1 : Nat) : Int)))), varN l.length ++ (l.take i).flatMap typV ++ typV x)) else some (Sum.inr (Sum.inl (([], false), varN l.length ++ (l.take i).flatMap typV)))) := by
   unfold qbx_B0
   rw [zd, decide_eq_true (by omega), cond_true, zn, hx, Option.bind_some, zem, Option.bind_some, Option.bind_some, zeq n x (ho x (List.mem_of_getElem? hx)) (by omega), Option.bind_some, zo (by simp only [List.length_append]; omega), zk (by omega)]
   cases goodV recs x <;> rfl
  by_cases hgx : goodV recs x = true
  ·rw [if_pos hgx] at hb
   exact .inl ⟨_, hb, by rw [zH hx, List.append_assoc], by rw [zaA hx, hg, hgx]; rfl⟩
  ·rw [if_neg hgx] at hb
   exact .inr ⟨_, hb, .inr ⟨zeW hx (by simpa using hgx), _, rfl⟩⟩
 ·obtain ⟨rfl, hg⟩ := hI
  rw [List.take_length] at hg ⊢
  refine ⟨Sum.inr ((l, most), typesV l), ?_, .inl ⟨hg, rfl⟩⟩
  show qbx_B0 n l recs most (l.length : Int) _ = _
  unfold qbx_B0
  rw [zd, decide_eq_false (by omega), cond_false]; rfl
structure LightM (m : ModD) : Prop where
 n1 : m.recs.length ≤ 200
 n2 : m.funcs.length ≤ 200
 n3 : m.imps.length ≤ 200
 n4 : m.ints.length ≤ 200
 n5 : m.texts.length ≤ 200
 recs : ∀ l ∈ m.recs, l.length ≤ 3000
 funcs : ∀ f ∈ m.funcs, f.1.length ≤ 3000 ∧ f.2.2.2.1.length ≤ 3000 ∧ f.2.2.2.2.length ≤ 3000
 imps : ∀ i ∈ m.imps, i.1.length ≤ 3000
 texts : ∀ s ∈ m.texts, s.size ≤ 3000
abbrev mtup (m : ModD) : List (List TyD) × List FnD × List ImD × List Int × List ByteArray := (m.recs, (m.funcs, (m.imps, (m.ints, m.texts))))
theorem refRecs (n : Nat) (m : ModD) (ho : OkM m) (hL : LightM m) (h8 : m.recs.length ≤ 8) (hn : 6000 ≤ n) : ∃ b, qbp_W0 n (((m.recs.length : Int), (true, 0)), (mtup m, varN m.recs.length)) = some (((m.recs.length : Int), m.recs.all (goodsV m.recs.length 6)), (mtup m, b)) ∧
  (m.recs.all (goodsV m.recs.length 6) = true → b = listV typesV m.recs) := by
 have hv := zg m.recs.length
 have h := zaB (B := fun s => qbp_B0 n s.1.1 s.1.2.1 s.1.2.2 s.2.1.1 s.2.1.2.1 s.2.1.2.2.1 s.2.1.2.2.2.1 s.2.1.2.2.2.2 s.2.2) (xs := m.recs) (mk := fun i (a : Bool × List Int) => (((m.recs.length : Int), (a.1, (i : Int))), (mtup m, a.2)))
  (I := fun i a => a.1 = (m.recs.take i).all (goodsV m.recs.length 6) ∧ a.2.length ≤ 11 + 70000 * i ∧ (a.1 = true → a.2 = varN m.recs.length ++ (m.recs.take i).flatMap typesV))
  (Q := fun y => ∃ b, y = (((m.recs.length : Int), m.recs.all (goodsV m.recs.length 6)), (mtup m, b)) ∧ (m.recs.all (goodsV m.recs.length 6) = true → b = listV typesV m.recs))
  (fun i a x hx hI => ?_) (fun a hI => ?_) m.recs.length 0 n (true, varN m.recs.length) (by omega) ⟨rfl, by simp; omega, fun _ => by simp⟩ (by omega)
 ·obtain ⟨y, h1, b, rfl, h2⟩ := h
  exact ⟨b, h1, h2⟩
 ·have hi := zj hx
  have hm := List.mem_of_getElem? hx
  have hxl := hL.recs x hm
  have htl := zcM m.recs.length 6 x
  obtain ⟨h1, h2, h3⟩ := hI
  refine .inl ⟨(a.1 && (typesR m.recs.length 6 x).2, a.2 ++ (typesR m.recs.length 6 x).1), ?_, ?_, ?_, ?_⟩
  ·show qbp_B0 n (m.recs.length : Int) a.1 (i : Int) m.recs m.funcs m.imps m.ints m.texts a.2 = _
   unfold qbp_B0
   rw [decide_eq_true (by omega), cond_true, zn, hx, Option.bind_some, zbN n x _ _ (ho.recs x hm) (by omega) hn, Option.bind_some, zo (by rw [List.length_append]; omega), cond_true, zk (by omega)]
   cases a.1 <;> rfl
  ·rw [h1, zaA hx, zcf]
  ·simp only [List.length_append]; omega
  ·intro hb
   simp only [Bool.and_eq_true, zcf] at hb
   simp only []
   rw [h3 hb.1, zbr hb.2, zH hx, List.append_assoc]
 ·obtain ⟨h1, h2, h3⟩ := hI
  rw [List.take_length] at h1 h3
  refine ⟨_, ?_, a.2, rfl, fun hb => h3 (h1.trans hb)⟩
  show qbp_B0 n (m.recs.length : Int) a.1 (m.recs.length : Int) m.recs m.funcs m.imps m.ints m.texts a.2 = _
  unfold qbp_B0
  rw [decide_eq_false (by omega), cond_false, h1]
theorem refCode (n : Nat) (m : ModD) (t4 : Int) (j : Int) (b1 b2 : List Int) (f : FnD) (hc : f.2.2.2.2.length ≤ 64) (hb2 : b2.length ≤ 4000000) (hn : 6000 ≤ n) :
  ∃ y, qbp_W4 n ((t4, (true, (j, 0))), (mtup m, (b1, (b2, f)))) = some y ∧
   ((f.2.2.2.2.any badI = false ∧ y = Sum.inr ((t4, (true, j)), (mtup m, (b1, (b2 ++ f.2.2.2.2.flatMap putV, f))))) ∨ (f.2.2.2.2.any badI = true ∧ ∃ z, y = Sum.inl (([], false), z))) := by
 refine zaB (B := fun s => qbp_B4 n s.1.1 s.1.2.1 s.1.2.2.1 s.1.2.2.2 s.2.1.1 s.2.1.2.1 s.2.1.2.2.1 s.2.1.2.2.2.1 s.2.1.2.2.2.2 s.2.2.1 s.2.2.2.1 s.2.2.2.2.1 s.2.2.2.2.2.1 s.2.2.2.2.2.2.1 s.2.2.2.2.2.2.2.1 s.2.2.2.2.2.2.2.2) (xs := f.2.2.2.2)
  (mk := fun i (a : List Int) => ((t4, (true, (j, (i : Int)))), (mtup m, (b1, (a, f))))) (I := fun i a => a = b2 ++ (f.2.2.2.2.take i).flatMap putV ∧ (f.2.2.2.2.take i).any badI = false) (fun i a x hx hI => ?_) (fun a hI => ?_) f.2.2.2.2.length 0 n b2 (by omega) ⟨by simp, rfl⟩ (by omega)
 ·have hi := zj hx
  obtain ⟨rfl, hg⟩ := hI
  have hfl := zy putV 23 (f.2.2.2.2.take i) fun t _ => zdd t
  have hxl := zdd x
  have htl : (f.2.2.2.2.take i).length = i := by rw [List.length_take]; omega
  have hz : (((putV x).length : Int) == 0) = badI x := by
   rw [← zkV]
   cases (putV x).length <;> rfl
  have hb : qbp_B4 n t4 true j (i : Int) m.recs m.funcs m.imps m.ints m.texts b1 (b2 ++ (f.2.2.2.2.take i).flatMap putV) f.1 f.2.1 f.2.2.1 f.2.2.2.1 f.2.2.2.2 =
    (if badI x = true then some (Sum.inr (Sum.inl (([], false), (mtup m, (b1, (b2 ++ (f.2.2.2.2.take i).flatMap putV, f)))))) else some (Sum.inl ((t4, (true, (j, ((i + 1 : Nat) : Int)))), (mtup m, (b1, (b2 ++ (f.2.2.2.2.take i).flatMap putV ++ putV x, f)))))) := by
   unfold qbp_B4
   rw [zd, decide_eq_true (by omega), cond_true, zn, hx, Option.bind_some, zkx n x (by omega), Option.bind_some, zd, hz, zo (by simp only [List.length_append]; omega), zk (by omega)]
   cases badI x <;> rfl
  by_cases hgx : badI x = true
  ·rw [if_pos hgx] at hb
   exact .inr ⟨_, hb, .inr ⟨List.any_eq_true.2 ⟨x, List.mem_of_getElem? hx, hgx⟩, _, rfl⟩⟩
  ·rw [if_neg hgx] at hb
   refine .inl ⟨_, hb, by rw [zH hx, List.append_assoc], ?_⟩
   rw [List.take_add_one, hx, List.any_append, hg]
   simpa using hgx
 ·obtain ⟨rfl, hg⟩ := hI
  rw [List.take_length] at hg ⊢
  refine ⟨_, ?_, .inl ⟨hg, rfl⟩⟩
  show qbp_B4 n t4 true j (f.2.2.2.2.length : Int) m.recs m.funcs m.imps m.ints m.texts b1 (b2 ++ f.2.2.2.2.flatMap putV) f.1 f.2.1 f.2.2.1 f.2.2.2.1 f.2.2.2.2 = _
  unfold qbp_B4
  rw [zd, decide_eq_false (by omega), cond_false]
theorem refFuncs (n : Nat) (m : ModD) (ho : OkM m) (hL : LightM m) (h1 : 1 ≤ m.funcs.length) (h8 : m.funcs.length ≤ 8) (ok : Bool) (b1 : List Int) (hn : 6000 ≤ n) :
  ∃ y, qbp_W2 n (((m.recs.length : Int), (ok, 0)), (mtup m, (b1, varN m.funcs.length))) = some y ∧
   (((ok && m.funcs.all (fitF m.recs.length)) = true ∧ y = Sum.inr (((m.recs.length : Int), true), (mtup m, (b1, listV fncV m.funcs)))) ∨ ((ok && m.funcs.all (fitF m.recs.length)) = false ∧ ∃ z, y = Sum.inl (([], false), z))) := by
 have hv := zg m.funcs.length
 refine zaB (B := fun s => qbp_B2 n s.1.1 s.1.2.1 s.1.2.2 s.2.1.1 s.2.1.2.1 s.2.1.2.2.1 s.2.1.2.2.2.1 s.2.1.2.2.2.2 s.2.2.1 s.2.2.2) (xs := m.funcs) (mk := fun i (a : Bool × List Int) => (((m.recs.length : Int), (a.1, (i : Int))), (mtup m, (b1, a.2))))
  (I := fun i a => (i = 0 → a.1 = ok) ∧ (0 < i → a.1 = true ∧ ok = true) ∧ (m.funcs.take i).all (fitF m.recs.length) = true ∧ a.2 = varN m.funcs.length ++ (m.funcs.take i).flatMap fncV)
  (fun i a x hx hI => ?_) (fun a hI => ?_) m.funcs.length 0 n (ok, varN m.funcs.length) (by omega) ⟨fun _ => rfl, fun h => by omega, rfl, by simp⟩ (by omega)
 ·have hi := zj hx
  have hm := List.mem_of_getElem? hx
  obtain ⟨l1, l2, l3⟩ := hL.funcs x hm
  obtain ⟨o1, o2, o3⟩ := ho.funcs x hm
  obtain ⟨ia, ib, hg, hbytes⟩ := hI
  have htl : (m.funcs.take i).length = i := by rw [List.length_take]; omega
  have hfl := zy fncV 1900 (m.funcs.take i) fun t ht => (zdr (List.all_eq_true.1 hg t ht)).2.2.2.2
  have hal : a.2.length ≤ 20000 := by rw [hbytes, List.length_append]; omega
  have hok : a.1 = ok := by
   rcases Nat.eq_zero_or_pos i with h | h
   ·exact ia h
   ·obtain ⟨e1, e2⟩ := ib h; rw [e1, e2]
  have exit : (a.1 && fitF m.recs.length x) = false → (ok && m.funcs.all (fitF m.recs.length)) = false := by
   intro h
   rw [hok] at h
   cases ok with
   | false => rfl
   | true =>
    have h : fitF m.recs.length x = false := h
    rw [Bool.true_and]; exact zeW hx h
  obtain ⟨ar, k, nn, lo, co⟩ := x
  simp only at l1 l2 l3 o1 o2 o3
  have t1 := zcM m.recs.length 4 ar
  have t2 := zcM m.recs.length (8 - (ar.length : Int)) lo
  have t3 := zah (k, nn)
  have t4 := zg co.length
  have hstep : ∀ s, qbp_B2 n (m.recs.length : Int) a.1 (i : Int) m.recs m.funcs m.imps m.ints m.texts b1 a.2 = s → (fun s => qbp_B2 n s.1.1 s.1.2.1 s.1.2.2 s.2.1.1 s.2.1.2.1 s.2.1.2.2.1 s.2.1.2.2.2.1 s.2.1.2.2.2.2 s.2.2.1 s.2.2.2) (((m.recs.length : Int), (a.1, (i : Int))), (mtup m, (b1, a.2))) = s := fun s h => h
  unfold qbp_B2 at hstep
  rw [zd, decide_eq_true (by omega), cond_true, zn, hx, Option.bind_some] at hstep
  simp only [] at hstep
  rw [zbN n ar _ _ o1 (by omega) hn, Option.bind_some, zd, zkR (by omega) (by omega), zbN n lo _ _ o3 (by omega) hn, Option.bind_some, zcf, zcf, zem n (k, nn), Option.bind_some, zd] at hstep
  have hfit : fitF m.recs.length (ar, k, nn, lo, co) = (goodsV m.recs.length 4 ar && (goodV m.recs.length (k, nn) && (goodsV m.recs.length (8 - (ar.length : Int)) lo && (decide (1 ≤ co.length) && (decide (co.length ≤ 64) && !co.any badI))))) := rfl
  rw [hfit] at exit
  cases ha : a.1 with
  | false =>
   rw [ha] at hstep exit
   exact .inr ⟨_, hstep _ rfl, .inr ⟨exit rfl, _, rfl⟩⟩
  | true =>
   rw [ha] at hstep exit
   cases g1 : goodsV m.recs.length 4 ar with
   | false =>
    rw [g1] at hstep exit
    exact .inr ⟨_, hstep _ rfl, .inr ⟨exit rfl, _, rfl⟩⟩
   | true =>
    rw [g1] at hstep exit
    cases g2 : goodsV m.recs.length (8 - (ar.length : Int)) lo with
    | false =>
     rw [g2] at hstep exit
     exact .inr ⟨_, hstep _ rfl, .inr ⟨exit (by simp), _, rfl⟩⟩
    | true =>
     rw [g2] at hstep exit
     cases g3 : goodV m.recs.length (k, nn) with
     | false =>
      rw [g3] at hstep exit
      exact .inr ⟨_, hstep _ rfl, .inr ⟨exit (by simp), _, rfl⟩⟩
     | true =>
      rw [g3] at hstep exit
      by_cases c1 : 1 ≤ co.length
      ·rw [decide_eq_true (by omega : (co.length : Int) ≥ 1)] at hstep
       rw [decide_eq_true c1] at exit
       by_cases c2 : co.length ≤ 64
       ·rw [decide_eq_true (by omega : (co.length : Int) ≤ 64)] at hstep
        rw [decide_eq_true c2] at exit
        rw [zbr g1] at hstep t1
        rw [zbr g2] at hstep t2
        simp only [cond_true, Bool.not_true, cond_false] at hstep
        rw [zo (by simp only [List.length_append]; omega), cond_true, zeq n (k, nn) o2 (by omega), Option.bind_some, zo (by simp only [List.length_append]; omega), cond_true, zo (by simp only [List.length_append]; omega), cond_true, zB (by omega) (by omega), zN n co.length (by omega) (by omega),
         Option.bind_some, zo (by simp only [List.length_append]; omega), cond_true] at hstep
        obtain ⟨y, hy, hcase⟩ := refCode n m (m.recs.length : Int) (i : Int) b1 ((((a.2 ++ typesV ar) ++ typV (k, nn)) ++ typesV lo) ++ varN co.length) (ar, k, nn, lo, co) c2 (by simp only [List.length_append]; omega) hn
        rw [show qbp_W4 n (((m.recs.length : Int), (true, ((i : Int), 0))), ((m.recs, (m.funcs, (m.imps, (m.ints, m.texts)))), (b1, (((((a.2 ++ typesV ar) ++ typV (k, nn)) ++ typesV lo) ++ varN co.length), (ar, (k, (nn, (lo, co)))))))) = some y from hy, Option.bind_some] at hstep
        rcases hcase with ⟨hbad, rfl⟩ | ⟨hbad, z, rfl⟩
        ·simp only [] at hstep
         rw [zk (by omega)] at hstep
         refine .inl ⟨(true, ((((a.2 ++ typesV ar) ++ typV (k, nn)) ++ typesV lo) ++ varN co.length) ++ co.flatMap putV), hstep _ rfl, fun h => by omega, fun _ => ⟨rfl, hok.symm.trans ha⟩, ?_, ?_⟩
         ·rw [zaA hx, hg, hfit, g1, g2, g3, decide_eq_true c1, decide_eq_true c2, hbad]; rfl
         ·rw [zH hx, hbytes]
          simp only [fncV, List.append_assoc]
        ·exact .inr ⟨_, hstep _ rfl, .inr ⟨exit (by simp only [] at hbad; rw [hbad]; rfl), _, rfl⟩⟩
       ·rw [decide_eq_false (by omega : ¬ (co.length : Int) ≤ 64)] at hstep
        rw [decide_eq_false c2] at exit
        exact .inr ⟨_, hstep _ rfl, .inr ⟨exit (by simp), _, rfl⟩⟩
      ·rw [decide_eq_false (by omega : ¬ (co.length : Int) ≥ 1)] at hstep
       rw [decide_eq_false c1] at exit
       exact .inr ⟨_, hstep _ rfl, .inr ⟨exit (by simp), _, rfl⟩⟩
 ·obtain ⟨ia, ib, hg, hbytes⟩ := hI
  rw [List.take_length] at hg hbytes
  obtain ⟨ha, hok⟩ := ib (by omega)
  refine ⟨_, ?_, .inl ⟨by rw [hok, hg]; rfl, rfl⟩⟩
  show qbp_B2 n (m.recs.length : Int) a.1 (m.funcs.length : Int) m.recs m.funcs m.imps m.ints m.texts b1 a.2 = _
  unfold qbp_B2
  rw [zd, decide_eq_false (by omega), cond_false, ha, hbytes]
  rfl
end Sx
end
section
/- The rest of the document's bytes of a module; which modules are light. -/
set_option linter.unusedVariables false
set_option linter.unusedSimpArgs false
namespace Sx
open Go Go.Ab
theorem refImps (n : Nat) (m : ModD) (ho : OkM m) (hL : LightM m) (h8 : m.imps.length ≤ 8) (b1 b2 : List Int) (hn : 6000 ≤ n) :
  ∃ b, qbp_W6 n (((m.recs.length : Int), (true, 0)), (mtup m, (b1, (b2, varN m.imps.length)))) = some (m.imps.all (fitI m.recs.length), (mtup m, (b1, (b2, b)))) ∧ b.length ≤ 2000000 ∧ (m.imps.all (fitI m.recs.length) = true → b = listV impV m.imps) := by
 have hv := zg m.imps.length
 have h := zaB (B := fun s => qbp_B6 n s.1.1 s.1.2.1 s.1.2.2 s.2.1.1 s.2.1.2.1 s.2.1.2.2.1 s.2.1.2.2.2.1 s.2.1.2.2.2.2 s.2.2.1 s.2.2.2.1 s.2.2.2.2) (xs := m.imps) (mk := fun i (a : Bool × List Int) => (((m.recs.length : Int), (a.1, (i : Int))), (mtup m, (b1, (b2, a.2)))))
  (I := fun i a => a.1 = (m.imps.take i).all (fitI m.recs.length) ∧ a.2.length ≤ 11 + 70000 * i ∧ (a.1 = true → a.2 = varN m.imps.length ++ (m.imps.take i).flatMap impV))
  (Q := fun y => ∃ b, y = (m.imps.all (fitI m.recs.length), (mtup m, (b1, (b2, b)))) ∧ b.length ≤ 2000000 ∧ (m.imps.all (fitI m.recs.length) = true → b = listV impV m.imps))
  (fun i a x hx hI => ?_) (fun a hI => ?_) m.imps.length 0 n (true, varN m.imps.length) (by omega) ⟨rfl, by simp; omega, fun _ => by simp⟩ (by omega)
 ·obtain ⟨y, h1, b, rfl, h2⟩ := h
  exact ⟨b, h1, h2⟩
 ·have hi := zj hx
  have hm := List.mem_of_getElem? hx
  have hxl := hL.imps x hm
  obtain ⟨o1, o2⟩ := ho.imps x hm
  obtain ⟨ar, k, nn⟩ := x
  simp only at hxl o1 o2
  have htl := zcM m.recs.length 4 ar
  have t3 := zah (k, nn)
  obtain ⟨h1, h2, h3⟩ := hI
  have hfit : fitI m.recs.length (ar, k, nn) = (goodsV m.recs.length 4 ar && goodV m.recs.length (k, nn)) := rfl
  refine .inl ⟨(a.1 && fitI m.recs.length (ar, k, nn), a.2 ++ (typesR m.recs.length 4 ar).1 ++ typV (k, nn)), ?_, ?_, ?_, ?_⟩
  ·show qbp_B6 n (m.recs.length : Int) a.1 (i : Int) m.recs m.funcs m.imps m.ints m.texts b1 b2 a.2 = _
   unfold qbp_B6
   rw [zd, decide_eq_true (by omega), cond_true, zn, hx, Option.bind_some]
   simp only [Option.bind_some]
   rw [zbN n ar _ _ o1 (by omega) hn, Option.bind_some, zcf, zem n (k, nn), zeq n (k, nn) o2 (by omega), hfit]
   simp only [Option.bind_some]
   rw [zo (by simp only [List.length_append]; omega), zo (by simp only [List.length_append]; omega), zk (by omega)]
   cases a.1 <;> cases goodsV m.recs.length 4 ar <;> rfl
  ·rw [h1, zaA hx]
  ·simp only [List.length_append]; omega
  ·intro hb
   simp only [Bool.and_eq_true, hfit] at hb
   simp only []
   rw [h3 hb.1, zbr hb.2.1, zH hx]
   simp only [impV, List.append_assoc]
 ·obtain ⟨h1, h2, h3⟩ := hI
  rw [List.take_length] at h1 h3
  refine ⟨_, ?_, a.2, rfl, by omega, fun hb => h3 (h1.trans hb)⟩
  show qbp_B6 n (m.recs.length : Int) a.1 (m.imps.length : Int) m.recs m.funcs m.imps m.ints m.texts b1 b2 a.2 = _
  unfold qbp_B6
  rw [zd, decide_eq_false (by omega), cond_false, h1]
theorem quo256 {v : Nat} (hv : v < 18446744073709551616) : quoI .u64 (v : Int) 256 = ((v / 256 : Nat) : Int) := by
 show IntKind.u64.wrap ((v : Int).tdiv 256) = _
 rw [Int.tdiv_eq_ediv_of_nonneg (by omega), wrapU64]
 omega
theorem zjC (n : Nat) (v : Nat) (hv : v < 18446744073709551616) (hn : 20 ≤ n) : qbv n (v : Int) 8 = some (fixN 8 v) := by
 have h := zaB (B := fun s => qbv_B0 n s.1.1 s.1.2.1 s.1.2.2 s.2) (xs := List.range 8) (mk := fun i (a : List Int) => ((((v / 256 ^ i : Nat) : Int), ((8 : Int), (i : Int))), a)) (I := fun i a => a = (List.range i).map fun j => ((v / 256 ^ j % 256 : Nat) : Int)) (Q := fun y => y = fixN 8 v)
  (fun i a x hx hI => ?_) (fun a hI => ?_) 8 0 n [] (by simp) rfl (by omega)
 ·obtain ⟨y, h1, rfl⟩ := h
  unfold qbv
  rw [Nat.pow_zero, Nat.div_one] at h1
  rw [show qbv_W0 n (((v : Int), ((8 : Int), 0)), []) = _ from h1]
  rfl
 ·have hi := zj hx
  rw [List.length_range] at hi
  subst hI
  have hd : v / 256 ^ i < 18446744073709551616 := Nat.lt_of_le_of_lt (Nat.div_le_self _ _) hv
  have e1 : v / 256 ^ (i + 1) = v / 256 ^ i / 256 := by rw [Nat.pow_succ, Nat.div_div_eq_div_mul]
  have e2 : (List.range (i + 1)).map (fun j => ((v / 256 ^ j % 256 : Nat) : Int)) = (List.range i).map (fun j => ((v / 256 ^ j % 256 : Nat) : Int)) ++ [((v / 256 ^ i % 256 : Nat) : Int)] := by
   rw [List.range_succ, List.map_append]; rfl
  refine .inl ⟨_, ?_, rfl⟩
  rw [e1, e2]
  generalize v / 256 ^ i = q at hd
  show qbv_B0 n (q : Int) 8 (i : Int) ((List.range i).map fun j => ((v / 256 ^ j % 256 : Nat) : Int)) = _
  unfold qbv_B0
  rw [decide_eq_true (by omega), cond_true, cond_true, zdl (by omega), zcT (by omega) (by omega), quo256 hd, zo (by simp; omega), cond_true, zk (by omega)]
  rfl
 ·subst hI
  refine ⟨_, ?_, rfl⟩
  rfl
theorem refInts (n : Nat) (m : ModD) (ho : OkM m) (h16 : m.ints.length ≤ 16) (ok : Bool) (b1 b2 b3 : List Int) (hn : 6000 ≤ n) :
  qbp_W8 n ((ok, 0), (mtup m, (b1, (b2, (b3, varN m.ints.length))))) = some (ok, (mtup m, (b1, (b2, (b3, listV (fun v => fixN 8 v.toNat) m.ints))))) := by
 have hv := zg m.ints.length
 have h := zQ (B := fun s => qbp_B8 n s.1.1 s.1.2 s.2.1.1 s.2.1.2.1 s.2.1.2.2.1 s.2.1.2.2.2.1 s.2.1.2.2.2.2 s.2.2.1 s.2.2.2.1 s.2.2.2.2.1 s.2.2.2.2.2) (xs := m.ints) (mk := fun i a => ((ok, (i : Int)), (mtup m, (b1, (b2, (b3, a)))))) (f := fun v => fixN 8 v.toNat)
  (e := fun a => (ok, (mtup m, (b1, (b2, (b3, a)))))) (c := 8) (m0 := varN m.ints.length) (cap := 40000) (fun x hx => by rw [zbj]; omega) (by omega) (fun i a x hx hmem ha => ?_) (fun a => ?_) (n := n) (by omega)
 ·exact h
 ·have hi := zj hx
  have hxr := ho.ints x hmem
  obtain ⟨u, rfl⟩ : ∃ u : Nat, x = (u : Int) := ⟨x.toNat, by omega⟩
  show qbp_B8 n ok (i : Int) m.recs m.funcs m.imps m.ints m.texts b1 b2 b3 a = _
  unfold qbp_B8
  rw [zbj] at ha
  rw [zd, decide_eq_true (by omega), cond_true, zn, hx, Option.bind_some, zjC n u (by omega) (by omega), Option.bind_some, zo (by rw [List.length_append, zbj]; omega), cond_true, zk (by omega), Int.toNat_natCast]
 ·show qbp_B8 n ok (m.ints.length : Int) m.recs m.funcs m.imps m.ints m.texts b1 b2 b3 a = _
  unfold qbp_B8
  rw [zd, decide_eq_false (by omega), cond_false]
theorem zkU {s : ByteArray} : (txtV s).length ≤ 11 + s.size := by
 have := zg s.size
 rw [txtV, List.length_append, zaC]; omega
theorem refTexts (n : Nat) (m : ModD) (hL : LightM m) (h16 : m.texts.length ≤ 16) (ok : Bool) (b1 b2 b3 b4 : List Int) (hn : 6000 ≤ n) :
  qbp_W10 n ((ok, 0), (mtup m, (b1, (b2, (b3, (b4, varN m.texts.length)))))) = some (ok && m.texts.all fun s => decide (s.size ≤ 32), (mtup m, (b1, (b2, (b3, (b4, listV txtV m.texts)))))) := by
 have hv := zg m.texts.length
 have h := zaB (B := fun s => qbp_B10 n s.1.1 s.1.2 s.2.1.1 s.2.1.2.1 s.2.1.2.2.1 s.2.1.2.2.2.1 s.2.1.2.2.2.2 s.2.2.1 s.2.2.2.1 s.2.2.2.2.1 s.2.2.2.2.2.1 s.2.2.2.2.2.2) (xs := m.texts) (mk := fun i (a : Bool × List Int) => ((a.1, (i : Int)), (mtup m, (b1, (b2, (b3, (b4, a.2)))))))
  (I := fun i a => a.1 = (ok && (m.texts.take i).all fun s => decide (s.size ≤ 32)) ∧ a.2.length ≤ 11 + 3011 * i ∧ a.2 = varN m.texts.length ++ (m.texts.take i).flatMap txtV)
  (Q := fun y => y = (ok && m.texts.all fun s => decide (s.size ≤ 32), (mtup m, (b1, (b2, (b3, (b4, listV txtV m.texts)))))))
  (fun i a x hx hI => ?_) (fun a hI => ?_) m.texts.length 0 n (ok, varN m.texts.length) (by omega) ⟨by simp, by simp; omega, by simp⟩ (by omega)
 ·obtain ⟨y, h1, rfl⟩ := h
  exact h1
 ·have hi := zj hx
  have hs := hL.texts x (List.mem_of_getElem? hx)
  have hvx := zg x.size
  obtain ⟨h1, h2, h3⟩ := hI
  have hd : decide (lenS x ≤ 32) = decide (x.size ≤ 32) := by
   unfold lenS
   by_cases h : x.size ≤ 32
   ·rw [decide_eq_true h, decide_eq_true (by omega)]
   ·rw [decide_eq_false h, decide_eq_false (by omega)]
  refine .inl ⟨(a.1 && decide (x.size ≤ 32), a.2 ++ txtV x), ?_, ?_, ?_, ?_⟩
  ·show qbp_B10 n a.1 (i : Int) m.recs m.funcs m.imps m.ints m.texts b1 b2 b3 b4 a.2 = _
   unfold qbp_B10
   rw [zd, decide_eq_true (by omega), cond_true, zn, hx]
   simp only [Option.bind_some]
   rw [show cvtI .u64 (lenS x) = ((x.size : Nat) : Int) from zB (a := ((x.size : Nat) : Int)) (by omega) (by omega), zN n x.size (by omega) (by omega)]
   simp only [Option.bind_some]
   rw [zo (by rw [List.length_append]; omega), zo (by simp only [List.length_append, zaC]; omega), zk (by omega), hd]
   cases a.1 <;> simp [txtV]
  ·simp only []
   rw [h1, zaA hx, Bool.and_assoc]
  ·have := zkU (s := x)
   simp only [List.length_append]; omega
  ·simp only []
   rw [h3, zH hx, List.append_assoc]
 ·obtain ⟨h1, h2, h3⟩ := hI
  rw [List.take_length] at h1 h3
  refine ⟨_, ?_, rfl⟩
  show qbp_B10 n a.1 (m.texts.length : Int) m.recs m.funcs m.imps m.ints m.texts b1 b2 b3 b4 a.2 = _
  unfold qbp_B10
  rw [zd, decide_eq_false (by omega), cond_false, h1, h3]
  rfl
theorem zlS (n : Nat) (l : List (List Int)) (hl : l.length ≤ 100) (hc : ∀ x ∈ l, x.length ≤ 3000000) (hn : 200 ≤ n) : qca n l = some (joinV l) := by
 have hv := zg l.length
 have hc2 : ∀ x ∈ l, (varN x.length ++ x).length ≤ 3000011 := fun x hx => by
  have := zg x.length
  have := hc x hx
  rw [List.length_append]; omega
 unfold qca
 rw [zd, zB (by omega) (by omega), zN n l.length (by omega) (by omega), Option.bind_some]
 have h := zQ (B := fun s => qca_B0 n s.1.1 s.1.2 s.2) (xs := l) (mk := fun i a => ((l, (i : Int)), a)) (f := fun p => varN p.length ++ p) (e := id) (c := 3000011) (m0 := varN l.length) (cap := 400000000)
  hc2 (by omega) (fun i a x hx hmem ha => ?_) (fun a => ?_) (n := n) (by omega)
 ·rw [show qca_W0 n ((l, 0), varN l.length) = _ from h, Option.bind_some]
  rfl
 ·have hi := zj hx
  have hvx := zg x.length
  have hxl := hc x hmem
  rw [List.length_append] at ha
  show qca_B0 n l (i : Int) a = _
  unfold qca_B0
  rw [zd, decide_eq_true (by omega), cond_true, zn, hx]
  simp only [Option.bind_some]
  rw [zd, zB (by omega) (by omega), zN n x.length (by omega) (by omega), Option.bind_some, zo (by rw [List.length_append]; omega), cond_true, zo (by simp only [List.length_append]; omega), cond_true, zk (by omega), List.append_assoc]
 ·show qca_B0 n l (l.length : Int) a = _
  unfold qca_B0
  rw [zd, decide_eq_false (by omega), cond_false]; rfl
theorem zjA (n : Nat) (m : ModD) (ho : OkM m) (hL : LightM m) (hn : 6000 ≤ n) : ∃ b, qbp n m.recs m.funcs m.imps m.ints m.texts = some (b, fitsV m) ∧ (fitsV m = true → b = encV m) := by
 unfold qbp
 rw [zd m.recs, zd m.funcs, zd m.imps, zd m.ints, zd m.texts]
 have no : fitsV m = false → ∃ b : List Int, some (([] : List Int), false) = some (b, fitsV m) ∧ (fitsV m = true → b = encV m) := fun h => ⟨[], by rw [h], fun h' => by rw [h] at h'; cases h'⟩
 by_cases h1 : m.recs.length ≤ 8
 case neg =>
  rw [decide_eq_true (by omega : (m.recs.length : Int) > 8), cond_true]
  exact no (by unfold fitsV; rw [decide_eq_false h1]; rfl)
 rw [decide_eq_false (by omega : ¬ (m.recs.length : Int) > 8), cond_false]
 by_cases h2 : 1 ≤ m.funcs.length
 case neg =>
  rw [decide_eq_true (by omega : (m.funcs.length : Int) < 1), cond_true]
  exact no (by unfold fitsV; rw [decide_eq_false h2]; simp)
 rw [decide_eq_false (by omega : ¬ (m.funcs.length : Int) < 1), cond_false]
 by_cases h3 : m.funcs.length ≤ 8
 case neg =>
  rw [decide_eq_true (by omega : (m.funcs.length : Int) > 8), cond_true]
  exact no (by unfold fitsV; rw [decide_eq_false h3]; simp)
 rw [decide_eq_false (by omega : ¬ (m.funcs.length : Int) > 8), cond_false]
 by_cases h4 : m.imps.length ≤ 8
 case neg =>
  rw [decide_eq_true (by omega : (m.imps.length : Int) > 8), cond_true]
  exact no (by unfold fitsV; rw [decide_eq_false h4]; simp)
 rw [decide_eq_false (by omega : ¬ (m.imps.length : Int) > 8), cond_false]
 by_cases h5 : m.ints.length ≤ 16
 case neg =>
  rw [decide_eq_true (by omega : (m.ints.length : Int) > 16), cond_true]
  exact no (by unfold fitsV; rw [decide_eq_false h5]; simp)
 rw [decide_eq_false (by omega : ¬ (m.ints.length : Int) > 16), cond_false]
 by_cases h6 : m.texts.length ≤ 16
 case neg =>
  rw [decide_eq_true (by omega : (m.texts.length : Int) > 16), cond_true]
  exact no (by unfold fitsV; rw [decide_eq_false h6]; simp)
 rw [decide_eq_false (by omega : ¬ (m.texts.length : Int) > 16), cond_false]
 have hfits : fitsV m = (m.recs.all (goodsV m.recs.length 6) && m.funcs.all (fitF m.recs.length) && (m.imps.all (fitI m.recs.length) && m.texts.all fun s => decide (s.size ≤ 32))) := by
  unfold fitsV
  rw [decide_eq_true h1, decide_eq_true h2, decide_eq_true h3, decide_eq_true h4, decide_eq_true h5, decide_eq_true h6]
  simp only [Bool.true_and, Bool.and_assoc]
 obtain ⟨b1, e1, p1⟩ := refRecs n m ho hL h1 hn
 obtain ⟨y, e2, p2⟩ := refFuncs n m ho hL h2 h3 (m.recs.all (goodsV m.recs.length 6)) b1 hn
 rw [zB (by omega) (by omega), zN n m.recs.length (by omega) (by omega), Option.bind_some]
 rw [show qbp_W0 n (((m.recs.length : Int), (true, 0)), ((m.recs, (m.funcs, (m.imps, (m.ints, m.texts)))), varN m.recs.length)) = _ from e1, Option.bind_some]
 simp only []
 rw [zd m.funcs, zB (by omega) (by omega), zN n m.funcs.length (by omega) (by omega), Option.bind_some]
 rw [show qbp_W2 n (((m.recs.length : Int), (m.recs.all (goodsV m.recs.length 6), 0)), ((m.recs, (m.funcs, (m.imps, (m.ints, m.texts)))), (b1, varN m.funcs.length))) = _ from e2, Option.bind_some]
 rcases p2 with ⟨hf, rfl⟩ | ⟨hf, z, rfl⟩
 ·have hf2 := hf
  rw [Bool.and_eq_true] at hf2
  obtain ⟨b3, e3, l3, p3⟩ := refImps n m ho hL h4 b1 (listV fncV m.funcs) hn
  simp only []
  rw [zd m.imps, zB (by omega) (by omega), zN n m.imps.length (by omega) (by omega), Option.bind_some]
  rw [show qbp_W6 n (((m.recs.length : Int), (true, 0)), ((m.recs, (m.funcs, (m.imps, (m.ints, m.texts)))), (b1, (listV fncV m.funcs, varN m.imps.length)))) = _ from e3, Option.bind_some]
  simp only []
  rw [zd m.ints, zB (by omega) (by omega), zN n m.ints.length (by omega) (by omega), Option.bind_some]
  rw [show qbp_W8 n ((m.imps.all (fitI m.recs.length), 0), ((m.recs, (m.funcs, (m.imps, (m.ints, m.texts)))), (b1, (listV fncV m.funcs, (b3, varN m.ints.length))))) = _ from refInts n m ho h5 _ b1 _ b3 hn, Option.bind_some]
  simp only []
  rw [zd m.texts, zB (by omega) (by omega), zN n m.texts.length (by omega) (by omega), Option.bind_some]
  rw [show qbp_W10 n ((m.imps.all (fitI m.recs.length), 0), ((m.recs, (m.funcs, (m.imps, (m.ints, m.texts)))), (b1, (listV fncV m.funcs, (b3, (listV (fun v => fixN 8 v.toNat) m.ints, varN m.texts.length)))))) = _ from refTexts n m hL h6 _ b1 _ b3 _ hn, Option.bind_some]
  simp only []
  have v1 := zg m.recs.length
  have v2 := zg m.funcs.length
  have v4 := zg m.ints.length
  have v5 := zg m.texts.length
  have c1 := zy typesV 143 m.recs fun x hx => by
   have := zag x
   have := zaE (List.all_eq_true.1 hf2.1 x hx)
   omega
  have c2 := zy fncV 1900 m.funcs fun x hx => (zdr (List.all_eq_true.1 hf2.2 x hx)).2.2.2.2
  have c4 := zy (fun v : Int => fixN 8 v.toNat) 8 m.ints fun x hx => by rw [zbj]; omega
  have c5 := zy txtV 3011 m.texts fun x hx => by
   have := zkU (s := x)
   have := hL.texts x hx
   omega
  rw [zlS n [b1, listV fncV m.funcs, b3, listV (fun v => fixN 8 v.toNat) m.ints, listV txtV m.texts] (by simp) ?_ (by omega), Option.bind_some]
  ·refine ⟨_, by rw [hfits, hf2.1, hf2.2]; rfl, fun h => ?_⟩
   rw [hfits, Bool.and_eq_true, Bool.and_eq_true (m.imps.all _)] at h
   rw [p1 hf2.1, p3 h.2.1]
   rfl
  ·intro x hx
   simp only [List.mem_cons, List.not_mem_nil, or_false] at hx
   rcases hx with rfl | rfl | rfl | rfl | rfl
   ·rw [p1 hf2.1, listV, List.length_append]; omega
   ·rw [listV, List.length_append]; omega
   ·omega
   ·rw [listV, List.length_append]; omega
   ·rw [listV, List.length_append]; omega
 ·exact no (by rw [hfits, hf]; rfl)
end Sx
end
section
/- Which modules are light; which hang together. -/
set_option linter.unusedVariables false
set_option linter.unusedSimpArgs false
namespace Sx
open Go Go.Ab
structure LenM (m : ModD) : Prop where
 n1 : m.recs.length ≤ 140737488351232
 n2 : m.funcs.length ≤ 140737488351232
 n3 : m.imps.length ≤ 140737488351232
 n4 : m.ints.length ≤ 140737488351232
 n5 : m.texts.length ≤ 140737488351232
 recs : ∀ l ∈ m.recs, l.length ≤ 140737488351232
 funcs : ∀ f ∈ m.funcs, f.1.length ≤ 140737488351232 ∧ f.2.2.2.1.length ≤ 140737488351232 ∧ f.2.2.2.2.length ≤ 140737488351232
 imps : ∀ i ∈ m.imps, i.1.length ≤ 140737488351232
 texts : ∀ s ∈ m.texts, s.size ≤ 140737488351232
theorem zeU {S X A : Type} {B : S → Option (S ⊕ X)} {xs : List A} {mk : Nat → Int → S} {f : A → Nat} {e : Int → X} {c : Nat} {base : Int} (hb : 0 ≤ base) (hc : ∀ x ∈ xs, f x ≤ c) (hcap : base + (c : Int) * (xs.length : Int) ≤ 9000000000000000000)
  (hs : ∀ i a x, xs[i]? = some x → x ∈ xs → 0 ≤ a → a + (f x : Int) ≤ 9000000000000000000 → B (mk i a) = some (.inl (mk (i + 1) (a + (f x : Int))))) (he : ∀ a, B (mk xs.length a) = some (.inr (e a))) {n : Nat} (hn : xs.length < n) :
  ∃ a, loopS B n (mk 0 base) = some (e a) ∧ base ≤ a ∧ a ≤ base + (c : Int) * (xs.length : Int) ∧ ∀ x ∈ xs, (f x : Int) ≤ a := by
 have h := zaB (B := B) (xs := xs) (mk := mk) (I := fun i a => base ≤ a ∧ a ≤ base + (c : Int) * (i : Int) ∧ ∀ x ∈ xs.take i, (f x : Int) ≤ a) (Q := fun y => ∃ a, y = e a ∧ base ≤ a ∧ a ≤ base + (c : Int) * (xs.length : Int) ∧ ∀ x ∈ xs, (f x : Int) ≤ a)
  (fun i a x hx hI => ?_) (fun a hI => ?_) xs.length 0 n base (by omega) ⟨Int.le_refl _, by simp, by simp⟩ hn
 ·obtain ⟨y, h1, a, rfl, h2⟩ := h
  exact ⟨a, h1, h2⟩
 ·have hi := zj hx
  have hm := List.mem_of_getElem? hx
  have hcx := hc x hm
  obtain ⟨h1, h2, h3⟩ := hI
  have hmul : (c : Int) * (i : Int) + (c : Int) ≤ (c : Int) * (xs.length : Int) := by
   have : (c * (i + 1) : Nat) ≤ c * xs.length := Nat.mul_le_mul_left c hi
   rw [Nat.mul_succ] at this
   have h := Int.ofNat_le.2 this
   simpa using h
  have hsucc : (c : Int) * ((i + 1 : Nat) : Int) = (c : Int) * (i : Int) + (c : Int) := by
   rw [Int.natCast_add, Int.mul_add]; simp
  refine .inl ⟨_, hs i a x hx hm (by omega) (by omega), by omega, by rw [hsucc]; omega, fun z hz => ?_⟩
  rw [List.take_add_one, hx, List.mem_append] at hz
  rcases hz with hz | hz
  ·have := h3 z hz; omega
  ·simp at hz; subst hz; omega
 ·obtain ⟨h1, h2, h3⟩ := hI
  rw [List.take_length] at h3
  exact ⟨_, he a, a, rfl, h1, h2, h3⟩
theorem zaD {a b : Int} (h1 : 0 ≤ a) (h2 : 0 ≤ b) (h3 : a + b ≤ 9000000000000000000) : addI .i64 a b = a + b := zcl (by omega) (by omega)
theorem zkD (n : Nat) (m : ModD) (hl : LenM m) (hn : 6000 ≤ n) : ∃ b, qby n m.recs m.funcs m.imps m.ints m.texts = some b ∧ (b = true → LightM m) := by
 unfold qby
 have n1 := hl.n1
 have n2 := hl.n2
 have n3 := hl.n3
 have n4 := hl.n4
 have n5 := hl.n5
 have hs : addI .i64 (addI .i64 (addI .i64 (addI .i64 (lenI m.recs) (lenI m.funcs)) (lenI m.imps)) (lenI m.ints)) (lenI m.texts) = ((m.recs.length + m.funcs.length + m.imps.length + m.ints.length + m.texts.length : Nat) : Int) := by
  simp only [zd]
  rw [zaD (b := ((m.funcs.length : Nat) : Int)) (by omega) (by omega) (by omega), zaD (b := ((m.imps.length : Nat) : Int)) (by omega) (by omega) (by omega), zaD (b := ((m.ints.length : Nat) : Int)) (by omega) (by omega) (by omega), zaD (b := ((m.texts.length : Nat) : Int)) (by omega) (by omega) (by omega)]
  omega
 rw [hs]
 by_cases h200 : m.recs.length + m.funcs.length + m.imps.length + m.ints.length + m.texts.length ≤ 200
 case neg =>
  rw [decide_eq_true (by omega), cond_true]
  exact ⟨false, rfl, fun h => by cases h⟩
 rw [decide_eq_false (by omega), cond_false]
 obtain ⟨a1, e1, l1, u1, p1⟩ := zeU (B := fun s => qby_B0 n s.1.1 s.1.2 s.2.1 s.2.2.1 s.2.2.2.1 s.2.2.2.2.1 s.2.2.2.2.2) (xs := m.recs) (mk := fun i (a : Int) => ((a, (i : Int)), mtup m)) (f := List.length) (e := fun a => (a, mtup m)) (c := 140737488351232)
  (base := ((m.recs.length + m.funcs.length + m.imps.length + m.ints.length + m.texts.length : Nat) : Int)) (by omega) hl.recs (by omega) (fun i a x hx hm h0 hcap => by
   have hi := zj hx
   show qby_B0 n a (i : Int) m.recs m.funcs m.imps m.ints m.texts = _
   unfold qby_B0
   rw [zd, decide_eq_true (by omega), cond_true, zn, hx, Option.bind_some, zd, zaD h0 (by omega) hcap, zk (by omega)]) (fun a => by
   show qby_B0 n a (m.recs.length : Int) m.recs m.funcs m.imps m.ints m.texts = _
   unfold qby_B0
   rw [zd, decide_eq_false (by omega), cond_false]) (n := n) (by omega)
 rw [show qby_W0 n ((((m.recs.length + m.funcs.length + m.imps.length + m.ints.length + m.texts.length : Nat) : Int), 0), (m.recs, (m.funcs, (m.imps, (m.ints, m.texts))))) = _ from e1, Option.bind_some]
 obtain ⟨a2, e2, l2, u2, p2⟩ := zeU (B := fun s => qby_B2 n s.1.1 s.1.2 s.2.1 s.2.2.1 s.2.2.2.1 s.2.2.2.2.1 s.2.2.2.2.2) (xs := m.funcs) (mk := fun i (a : Int) => ((a, (i : Int)), mtup m)) (f := fun f => f.1.length + f.2.2.2.1.length + f.2.2.2.2.length) (e := fun a => (a, mtup m)) (c := 422212465053696)
  (base := a1) (by omega) (fun f hf => by obtain ⟨h1, h2, h3⟩ := hl.funcs f hf; omega) (by omega) (fun i a x hx hm h0 hcap => by
   have hi := zj hx
   show qby_B2 n a (i : Int) m.recs m.funcs m.imps m.ints m.texts = _
   unfold qby_B2
   rw [zd, decide_eq_true (by omega), cond_true, zn, hx]
   simp only [Option.bind_some, zd]
   rw [zaD (b := ((x.1.length : Nat) : Int)) h0 (by omega) (by omega), zaD (b := ((x.2.2.2.1.length : Nat) : Int)) (by omega) (by omega) (by omega), zaD (b := ((x.2.2.2.2.length : Nat) : Int)) (by omega) (by omega) (by omega), zk (by omega)]
   have : a + ((x.1.length : Nat) : Int) + ((x.2.2.2.1.length : Nat) : Int) + ((x.2.2.2.2.length : Nat) : Int) = a + ((x.1.length + x.2.2.2.1.length + x.2.2.2.2.length : Nat) : Int) := by omega
   rw [this]) (fun a => by
   show qby_B2 n a (m.funcs.length : Int) m.recs m.funcs m.imps m.ints m.texts = _
   unfold qby_B2
   rw [zd, decide_eq_false (by omega), cond_false]) (n := n) (by omega)
 rw [show qby_W2 n ((a1, 0), (m.recs, (m.funcs, (m.imps, (m.ints, m.texts))))) = _ from e2, Option.bind_some]
 obtain ⟨a3, e3, l3, u3, p3⟩ := zeU (B := fun s => qby_B4 n s.1.1 s.1.2 s.2.1 s.2.2.1 s.2.2.2.1 s.2.2.2.2.1 s.2.2.2.2.2) (xs := m.imps) (mk := fun i (a : Int) => ((a, (i : Int)), mtup m)) (f := fun f => f.1.length) (e := fun a => (a, mtup m)) (c := 140737488351232)
  (base := a2) (by omega) hl.imps (by omega) (fun i a x hx hm h0 hcap => by
   have hi := zj hx
   show qby_B4 n a (i : Int) m.recs m.funcs m.imps m.ints m.texts = _
   unfold qby_B4
   rw [zd, decide_eq_true (by omega), cond_true, zn, hx, Option.bind_some, zd, zaD h0 (by omega) hcap, zk (by omega)]) (fun a => by
   show qby_B4 n a (m.imps.length : Int) m.recs m.funcs m.imps m.ints m.texts = _
   unfold qby_B4
   rw [zd, decide_eq_false (by omega), cond_false]) (n := n) (by omega)
 rw [show qby_W4 n ((a2, 0), (m.recs, (m.funcs, (m.imps, (m.ints, m.texts))))) = _ from e3, Option.bind_some]
 obtain ⟨a4, e4, l4, u4, p4⟩ := zeU (B := fun s => qby_B6 n s.1.1 s.1.2 s.2.1 s.2.2.1 s.2.2.2.1 s.2.2.2.2.1 s.2.2.2.2.2) (xs := m.texts) (mk := fun i (a : Int) => ((a, (i : Int)), mtup m)) (f := ByteArray.size) (e := fun a => (a, mtup m)) (c := 140737488351232)
  (base := a3) (by omega) hl.texts (by omega) (fun i a x hx hm h0 hcap => by
   have hi := zj hx
   show qby_B6 n a (i : Int) m.recs m.funcs m.imps m.ints m.texts = _
   unfold qby_B6
   rw [zd, decide_eq_true (by omega), cond_true, zn, hx, Option.bind_some, show lenS x = ((x.size : Nat) : Int) from rfl, zaD h0 (by omega) hcap, zk (by omega)]) (fun a => by
   show qby_B6 n a (m.texts.length : Int) m.recs m.funcs m.imps m.ints m.texts = _
   unfold qby_B6
   rw [zd, decide_eq_false (by omega), cond_false]) (n := n) (by omega)
 rw [show qby_W6 n ((a3, 0), (m.recs, (m.funcs, (m.imps, (m.ints, m.texts))))) = _ from e4, Option.bind_some]
 refine ⟨_, rfl, fun h => ?_⟩
 have h3000 := of_decide_eq_true h
 simp only at h3000
 refine ⟨by omega, by omega, by omega, by omega, by omega, fun x hx => ?_, fun x hx => ?_, fun x hx => ?_, fun x hx => ?_⟩
 ·have := p1 x hx; omega
 ·have := p2 x hx; omega
 ·have := p3 x hx; omega
 ·have := p4 x hx; omega
end Sx
end
section
/- Which modules are the same: both answers in plain words. -/
set_option linter.unusedVariables false
set_option linter.unusedSimpArgs false
namespace Sx
open Go Go.Ab
theorem zbe {A X S : Type} {xs ys : List A} {B : S → Option (S ⊕ X)} {mk : Nat → S} {p : A → A → Bool} {found : Nat → A → A → X} {e : X} (hlen : xs.length = ys.length)
  (hs : ∀ i x y, xs[i]? = some x → ys[i]? = some y → B (mk i) = (if p x y = true then some (.inl (mk (i + 1))) else some (.inr (found i x y))))
  (he : B (mk xs.length) = some (.inr e)) (n : Nat) (hn : xs.length < n) :
  ((xs.zip ys).all (fun q => p q.1 q.2) = true ∧ loopS B n (mk 0) = some e) ∨ ((xs.zip ys).all (fun q => p q.1 q.2) = false ∧ ∃ i x y, loopS B n (mk 0) = some (found i x y)) := by
 have hz : (xs.zip ys).length = xs.length := by simp [hlen]
 have h := zab (xs := xs.zip ys) (B := B) (mk := mk) (p := fun q => !p q.1 q.2) (found := fun i q => found i q.1 q.2) (e := e) (fun i q hq => ?_) (by rw [hz]; exact he) xs.length 0 n (by omega) hn
 ·rw [List.drop_zero] at h
  have ha : (xs.zip ys).all (fun q => p q.1 q.2) = !(xs.zip ys).any (fun q => !p q.1 q.2) := by rw [zdA]
  rcases h with ⟨h1, k, q, _, _, h2⟩ | ⟨h1, h2⟩
  ·exact .inr ⟨by rw [ha, h1]; rfl, k, q.1, q.2, h2⟩
  ·exact .inl ⟨by rw [ha, h1]; rfl, h2⟩
 ·have hi : i < (xs.zip ys).length := zj hq
  have hx : xs[i]? = some q.1 := by
   rw [List.getElem?_eq_getElem hi] at hq
   have := Option.some.inj hq
   rw [List.getElem_zip] at this
   rw [← this, List.getElem?_eq_getElem]
  have hy : ys[i]? = some q.2 := by
   rw [List.getElem?_eq_getElem hi] at hq
   have := Option.some.inj hq
   rw [List.getElem_zip] at this
   rw [← this, List.getElem?_eq_getElem]
  rw [hs i q.1 q.2 hx hy]
  cases p q.1 q.2 <;> rfl
def eqL {A : Type} (p : A → A → Bool) (xs ys : List A) : Bool := decide (xs.length = ys.length) && (xs.zip ys).all (fun q => p q.1 q.2)
theorem lenNe {A B : Type} (a : List A) (b : List B) : (lenI a != lenI b) = !decide (a.length = b.length) := by
 rw [zd, zd]
 by_cases h : a.length = b.length
 ·simp [h]
 ·rw [decide_eq_false h]
  show (!((a.length : Int) == (b.length : Int))) = !false
  rw [beq_eq_false_iff_ne.2 (by omega)]
theorem zam {A : Type} {p : A → A → Bool} (xs : List A) (h : ∀ x ∈ xs, p x x = true) : eqL p xs xs = true := by
 unfold eqL
 rw [decide_eq_true rfl, Bool.true_and, List.all_eq_true]
 intro q hq
 obtain ⟨i, hi, rfl⟩ := List.getElem_of_mem hq
 rw [List.getElem_zip]
 exact h _ (List.getElem_mem _)
def eqT (x y : TyD) : Bool := (x.1 == y.1) && (x.2 == y.2)
def eqI (x y : InD) : Bool := (x.1 == y.1) && ((x.2.1 == y.2.1) && (x.2.2 == y.2.2))
def eqN (x y : Int) : Bool := x == y
theorem qba_eq (n : Nat) (a b : List TyD) (ha : a.length ≤ 5000) (hn : 6000 ≤ n) : qba n a b = some (eqL eqT a b) := by
 unfold qba eqL
 rw [lenNe]
 by_cases hl : a.length = b.length
 ·rw [decide_eq_true hl, Bool.not_true, cond_false, Bool.true_and]
  have h := zbe (B := fun s => qba_B0 n s.1 s.2.1 s.2.2) (mk := fun (i : Nat) => (a, (b, (i : Int)))) (p := eqT) (found := fun i x y => Sum.inl false) (e := Sum.inr ()) hl (fun i x y hx hy => ?_) ?_ n (by omega)
  ·rcases h with ⟨h1, h2⟩ | ⟨h1, i, x, y, h2⟩
   ·rw [show qba_W0 n (a, (b, 0)) = _ from h2, h1]; rfl
   ·rw [show qba_W0 n (a, (b, 0)) = _ from h2, h1]; rfl
  ·have hi := zj hx
   show qba_B0 n a b (i : Int) = _
   unfold qba_B0
   rw [zd, decide_eq_true (by omega), cond_true, zn, hx, Option.bind_some, zn, hy, Option.bind_some, zk (by omega)]
   show (bif !eqT x y then _ else _) = _
   cases eqT x y <;> rfl
  ·show qba_B0 n a b (a.length : Int) = _
   unfold qba_B0
   rw [zd, decide_eq_false (by omega), cond_false]
 ·rw [decide_eq_false hl]; rfl
def eqTs (x y : List TyD) : Bool := eqL eqT x y
def eqF (x y : FnD) : Bool := ((x.2.1 == y.2.1) && (x.2.2.1 == y.2.2.1)) && (eqL eqT x.1 y.1 && (eqL eqT x.2.2.2.1 y.2.2.2.1 && eqL eqI x.2.2.2.2 y.2.2.2.2))
def eqM (x y : ImD) : Bool := ((x.2.1 == y.2.1) && (x.2.2 == y.2.2)) && eqL eqT x.1 y.1
def sameV (a b : ModD) : Bool := eqL eqTs a.recs b.recs && (eqL eqF a.funcs b.funcs && (eqL eqM a.imps b.imps && (eqL eqN a.ints b.ints && eqL eqS a.texts b.texts)))
theorem refSame0 (n : Nat) (a b : ModD) (hl : a.recs.length = b.recs.length) (hL : LightM a) (hn : 6000 ≤ n) :
  ((a.recs.zip b.recs).all (fun q => eqTs q.1 q.2) = true ∧ qt_W0 n (0, (mtup a, mtup b)) = some (Sum.inr (mtup a, mtup b))) ∨
  ((a.recs.zip b.recs).all (fun q => eqTs q.1 q.2) = false ∧ ∃ (i : Nat) (x y : List TyD), qt_W0 n (0, (mtup a, mtup b)) = some (Sum.inl (false, (mtup a, mtup b)))) := by
 have l1 := hL.n1
 refine zbe (B := fun s => qt_B0 n s.1 s.2.1.1 s.2.1.2.1 s.2.1.2.2.1 s.2.1.2.2.2.1 s.2.1.2.2.2.2 s.2.2.1 s.2.2.2.1 s.2.2.2.2.1 s.2.2.2.2.2.1 s.2.2.2.2.2.2) (mk := fun (i : Nat) => ((i : Int), (mtup a, mtup b))) (p := eqTs) (found := fun i x y => Sum.inl (false, (mtup a, mtup b))) (e := Sum.inr (mtup a, mtup b)) hl (fun i x y hx hy => ?_) ?_ n (by omega)
 ·have hi := zj hx
  have h3 := hL.recs x (List.mem_of_getElem? hx)
  show qt_B0 n (i : Int) a.recs a.funcs a.imps a.ints a.texts b.recs b.funcs b.imps b.ints b.texts = _
  unfold qt_B0
  rw [zd, decide_eq_true (by omega), cond_true, zn, hx, Option.bind_some, zn, hy, Option.bind_some, qba_eq n x y (by omega) hn, Option.bind_some, zk (by omega)]
  show (bif !eqTs x y then _ else _) = _
  cases eqTs x y <;> rfl
 ·show qt_B0 n (a.recs.length : Int) a.recs a.funcs a.imps a.ints a.texts b.recs b.funcs b.imps b.ints b.texts = _
  unfold qt_B0
  rw [zd, decide_eq_false (by omega), cond_false]
theorem refSame4 (n : Nat) (a b : ModD) (t6 : Int) (x y : FnD) (hl : x.2.2.2.2.length = y.2.2.2.2.length) (h3 : x.2.2.2.2.length ≤ 5000) (hn : 6000 ≤ n) :
  ((x.2.2.2.2.zip y.2.2.2.2).all (fun q => eqI q.1 q.2) = true ∧ qt_W4 n ((t6, 0), (mtup a, (mtup b, (x, y)))) = some (Sum.inr (t6, (mtup a, (mtup b, (x, y)))))) ∨
  ((x.2.2.2.2.zip y.2.2.2.2).all (fun q => eqI q.1 q.2) = false ∧ ∃ (i : Nat) (x' y' : InD), qt_W4 n ((t6, 0), (mtup a, (mtup b, (x, y)))) = some (Sum.inl (false, (mtup a, (mtup b, (x, y)))))) := by
 refine zbe (B := fun s => qt_B4 n s.1.1 s.1.2 s.2.1.1 s.2.1.2.1 s.2.1.2.2.1 s.2.1.2.2.2.1 s.2.1.2.2.2.2 s.2.2.1.1 s.2.2.1.2.1 s.2.2.1.2.2.1 s.2.2.1.2.2.2.1 s.2.2.1.2.2.2.2 s.2.2.2.1.1 s.2.2.2.1.2.1 s.2.2.2.1.2.2.1 s.2.2.2.1.2.2.2.1 s.2.2.2.1.2.2.2.2 s.2.2.2.2.1 s.2.2.2.2.2.1 s.2.2.2.2.2.2.1 s.2.2.2.2.2.2.2.1 s.2.2.2.2.2.2.2.2) (mk := fun (i : Nat) => ((t6, (i : Int)), (mtup a, (mtup b, (x, y))))) (p := eqI) (found := fun i x' y' => Sum.inl (false, (mtup a, (mtup b, (x, y))))) (e := Sum.inr (t6, (mtup a, (mtup b, (x, y))))) hl (fun i x' y' hx hy => ?_) ?_ n (by omega)
 ·have hi := zj hx
  show qt_B4 n t6 (i : Int) a.recs a.funcs a.imps a.ints a.texts b.recs b.funcs b.imps b.ints b.texts x.1 x.2.1 x.2.2.1 x.2.2.2.1 x.2.2.2.2 y.1 y.2.1 y.2.2.1 y.2.2.2.1 y.2.2.2.2 = _
  unfold qt_B4
  rw [zd, decide_eq_true (by omega), cond_true, zn, hx, Option.bind_some, zn, hy, Option.bind_some, zk (by omega)]
  show (bif !eqI x' y' then _ else _) = _
  cases eqI x' y' <;> rfl
 ·show qt_B4 n t6 (x.2.2.2.2.length : Int) a.recs a.funcs a.imps a.ints a.texts b.recs b.funcs b.imps b.ints b.texts x.1 x.2.1 x.2.2.1 x.2.2.2.1 x.2.2.2.2 y.1 y.2.1 y.2.2.1 y.2.2.2.1 y.2.2.2.2 = _
  unfold qt_B4
  rw [zd, decide_eq_false (by omega), cond_false]
def eqFr (x y : FnD) : Bool := eqL eqT x.1 y.1 && (((x.2.1 == y.2.1) && (x.2.2.1 == y.2.2.1)) && (eqL eqT x.2.2.2.1 y.2.2.2.1 && eqL eqI x.2.2.2.2 y.2.2.2.2))
theorem zoI : eqFr = eqF := by
 funext x y
 unfold eqFr eqF
 cases eqL eqT x.1 y.1 <;> cases ((x.2.1 == y.2.1) && (x.2.2.1 == y.2.2.1)) <;> rfl
def eqMr (x y : ImD) : Bool := eqL eqT x.1 y.1 && ((x.2.1 == y.2.1) && (x.2.2 == y.2.2))
theorem zoB : eqMr = eqM := by
 funext x y
 unfold eqMr eqM
 cases eqL eqT x.1 y.1 <;> cases ((x.2.1 == y.2.1) && (x.2.2 == y.2.2)) <;> rfl
theorem refSame2 (n : Nat) (a b : ModD) (hl : a.funcs.length = b.funcs.length) (hL : LightM a) (hn : 6000 ≤ n) :
  ((a.funcs.zip b.funcs).all (fun q => eqFr q.1 q.2) = true ∧ qt_W2 n (0, (mtup a, mtup b)) = some (Sum.inr (mtup a, mtup b))) ∨
  ((a.funcs.zip b.funcs).all (fun q => eqFr q.1 q.2) = false ∧ ∃ (i : Nat) (x y : FnD), qt_W2 n (0, (mtup a, mtup b)) = some (Sum.inl (false, (mtup a, (mtup b, (x, y)))))) := by
 have l2 := hL.n2
 refine zbe (B := fun s => qt_B2 n s.1 s.2.1.1 s.2.1.2.1 s.2.1.2.2.1 s.2.1.2.2.2.1 s.2.1.2.2.2.2 s.2.2.1 s.2.2.2.1 s.2.2.2.2.1 s.2.2.2.2.2.1 s.2.2.2.2.2.2) (mk := fun (i : Nat) => ((i : Int), (mtup a, mtup b))) (p := eqFr) (found := fun i x y => Sum.inl (false, (mtup a, (mtup b, (x, y))))) (e := Sum.inr (mtup a, mtup b)) hl (fun i x y hx hy => ?_) ?_ n (by omega)
 ·have hi := zj hx
  show qt_B2 n (i : Int) a.recs a.funcs a.imps a.ints a.texts b.recs b.funcs b.imps b.ints b.texts = _
  unfold qt_B2
  rw [zd, decide_eq_true (by omega), cond_true, zn, hx, Option.bind_some, zn, hy, Option.bind_some]
  have h3 := hL.funcs x (List.mem_of_getElem? hx)
  rw [qba_eq n x.1 y.1 (by omega) hn, Option.bind_some, qba_eq n x.2.2.2.1 y.2.2.2.1 (by omega) hn, Option.bind_some, lenNe]
  unfold eqFr
  cases h1 : eqL eqT x.1 y.1 with
  | false => rfl
  | true =>
  cases h2 : ((x.2.1 == y.2.1) && (x.2.2.1 == y.2.2.1)) with
  | false => rfl
  | true =>
  cases h4 : eqL eqT x.2.2.2.1 y.2.2.2.1 with
  | false => rfl
  | true =>
  by_cases h5 : x.2.2.2.2.length = y.2.2.2.2.length
  ·rw [decide_eq_true h5]
   unfold eqL
   rw [decide_eq_true h5]
   rcases refSame4 n a b (i : Int) x y h5 (by omega) hn with ⟨h6, h7⟩ | ⟨h6, _, _, _, h7⟩
   ·rw [h6]
    simp only [Bool.not_true, cond_false, Bool.true_and, if_true]
    show ((qt_W4 n (((i : Int), 0), (mtup a, (mtup b, (x, y))))).bind _) = _
    rw [h7]
    show some (Sum.inl (addI .i64 (i : Int) 1, (mtup a, mtup b))) = _
    rw [zk (by omega)]
   ·rw [h6]
    simp only [Bool.not_true, cond_false, Bool.true_and]
    show ((qt_W4 n (((i : Int), 0), (mtup a, (mtup b, (x, y))))).bind _) = _
    rw [h7]
    rfl
  ·rw [decide_eq_false h5]
   unfold eqL
   rw [decide_eq_false h5]
   rfl
 ·show qt_B2 n (a.funcs.length : Int) a.recs a.funcs a.imps a.ints a.texts b.recs b.funcs b.imps b.ints b.texts = _
  unfold qt_B2
  rw [zd, decide_eq_false (by omega), cond_false]
theorem refSame6 (n : Nat) (a b : ModD) (hl : a.imps.length = b.imps.length) (hL : LightM a) (hn : 6000 ≤ n) :
  ((a.imps.zip b.imps).all (fun q => eqMr q.1 q.2) = true ∧ qt_W6 n (0, (mtup a, mtup b)) = some (Sum.inr (mtup a, mtup b))) ∨
  ((a.imps.zip b.imps).all (fun q => eqMr q.1 q.2) = false ∧ ∃ (i : Nat) (x y : ImD), qt_W6 n (0, (mtup a, mtup b)) = some (Sum.inl (false, (mtup a, mtup b)))) := by
 have l3 := hL.n3
 refine zbe (B := fun s => qt_B6 n s.1 s.2.1.1 s.2.1.2.1 s.2.1.2.2.1 s.2.1.2.2.2.1 s.2.1.2.2.2.2 s.2.2.1 s.2.2.2.1 s.2.2.2.2.1 s.2.2.2.2.2.1 s.2.2.2.2.2.2) (mk := fun (i : Nat) => ((i : Int), (mtup a, mtup b))) (p := eqMr) (found := fun i x y => Sum.inl (false, (mtup a, mtup b))) (e := Sum.inr (mtup a, mtup b)) hl (fun i x y hx hy => ?_) ?_ n (by omega)
 ·have hi := zj hx
  show qt_B6 n (i : Int) a.recs a.funcs a.imps a.ints a.texts b.recs b.funcs b.imps b.ints b.texts = _
  unfold qt_B6
  rw [zd, decide_eq_true (by omega), cond_true, zn, hx, Option.bind_some, zn, hy, Option.bind_some]
  have h3 := hL.imps x (List.mem_of_getElem? hx)
  rw [qba_eq n x.1 y.1 (by omega) hn, Option.bind_some, Option.bind_some, Option.bind_some, zk (by omega)]
  unfold eqMr
  cases eqL eqT x.1 y.1 <;> cases ((x.2.1 == y.2.1) && (x.2.2 == y.2.2)) <;> rfl
 ·show qt_B6 n (a.imps.length : Int) a.recs a.funcs a.imps a.ints a.texts b.recs b.funcs b.imps b.ints b.texts = _
  unfold qt_B6
  rw [zd, decide_eq_false (by omega), cond_false]
theorem refSame8 (n : Nat) (a b : ModD) (hl : a.ints.length = b.ints.length) (hL : LightM a) (hn : 6000 ≤ n) :
  ((a.ints.zip b.ints).all (fun q => eqN q.1 q.2) = true ∧ qt_W8 n (0, (mtup a, mtup b)) = some (Sum.inr (mtup a, mtup b))) ∨
  ((a.ints.zip b.ints).all (fun q => eqN q.1 q.2) = false ∧ ∃ (i : Nat) (x y : Int), qt_W8 n (0, (mtup a, mtup b)) = some (Sum.inl (false, (mtup a, mtup b)))) := by
 have l4 := hL.n4
 refine zbe (B := fun s => qt_B8 n s.1 s.2.1.1 s.2.1.2.1 s.2.1.2.2.1 s.2.1.2.2.2.1 s.2.1.2.2.2.2 s.2.2.1 s.2.2.2.1 s.2.2.2.2.1 s.2.2.2.2.2.1 s.2.2.2.2.2.2) (mk := fun (i : Nat) => ((i : Int), (mtup a, mtup b))) (p := eqN) (found := fun i x y => Sum.inl (false, (mtup a, mtup b))) (e := Sum.inr (mtup a, mtup b)) hl (fun i x y hx hy => ?_) ?_ n (by omega)
 ·have hi := zj hx
  show qt_B8 n (i : Int) a.recs a.funcs a.imps a.ints a.texts b.recs b.funcs b.imps b.ints b.texts = _
  unfold qt_B8
  rw [zd, decide_eq_true (by omega), cond_true, zn, hx, Option.bind_some, zn, hy, Option.bind_some]
  rw [zk (by omega)]
  show (bif !eqN x y then _ else _) = _
  cases eqN x y <;> rfl
 ·show qt_B8 n (a.ints.length : Int) a.recs a.funcs a.imps a.ints a.texts b.recs b.funcs b.imps b.ints b.texts = _
  unfold qt_B8
  rw [zd, decide_eq_false (by omega), cond_false]
theorem refSame10 (n : Nat) (a b : ModD) (hl : a.texts.length = b.texts.length) (hL : LightM a) (hn : 6000 ≤ n) :
  ((a.texts.zip b.texts).all (fun q => eqS q.1 q.2) = true ∧ qt_W10 n (0, (mtup a, mtup b)) = some (Sum.inr (mtup a, mtup b))) ∨
  ((a.texts.zip b.texts).all (fun q => eqS q.1 q.2) = false ∧ ∃ (i : Nat) (x y : ByteArray), qt_W10 n (0, (mtup a, mtup b)) = some (Sum.inl (false, (mtup a, mtup b)))) := by
 have l5 := hL.n5
 refine zbe (B := fun s => qt_B10 n s.1 s.2.1.1 s.2.1.2.1 s.2.1.2.2.1 s.2.1.2.2.2.1 s.2.1.2.2.2.2 s.2.2.1 s.2.2.2.1 s.2.2.2.2.1 s.2.2.2.2.2.1 s.2.2.2.2.2.2) (mk := fun (i : Nat) => ((i : Int), (mtup a, mtup b))) (p := eqS) (found := fun i x y => Sum.inl (false, (mtup a, mtup b))) (e := Sum.inr (mtup a, mtup b)) hl (fun i x y hx hy => ?_) ?_ n (by omega)
 ·have hi := zj hx
  show qt_B10 n (i : Int) a.recs a.funcs a.imps a.ints a.texts b.recs b.funcs b.imps b.ints b.texts = _
  unfold qt_B10
  rw [zd, decide_eq_true (by omega), cond_true, zn, hx, Option.bind_some, zn, hy, Option.bind_some]
  rw [zk (by omega)]
  cases eqS x y <;> rfl
 ·show qt_B10 n (a.texts.length : Int) a.recs a.funcs a.imps a.ints a.texts b.recs b.funcs b.imps b.ints b.texts = _
  unfold qt_B10
  rw [zd, decide_eq_false (by omega), cond_false]
theorem zme (n : Nat) (a b : ModD) (hL : LightM a) (hn : 6000 ≤ n) : qt n a.recs a.funcs a.imps a.ints a.texts b.recs b.funcs b.imps b.ints b.texts = some (sameV a b) := by
 unfold qt sameV eqL
 rw [lenNe, lenNe, lenNe, lenNe, lenNe]
 by_cases h1 : a.recs.length = b.recs.length
 ·by_cases h2 : a.funcs.length = b.funcs.length
  ·by_cases h3 : a.imps.length = b.imps.length
   ·by_cases h4 : a.ints.length = b.ints.length
    ·by_cases h5 : a.texts.length = b.texts.length
     ·rw [decide_eq_true h1, decide_eq_true h2, decide_eq_true h3, decide_eq_true h4, decide_eq_true h5]
      simp only [Bool.not_true, cond_false, Bool.true_and]
      have r2 := refSame2 n a b h2 hL hn
      have r6 := refSame6 n a b h3 hL hn
      rw [zoI] at r2
      rw [zoB] at r6
      rcases refSame0 n a b h1 hL hn with ⟨e, r⟩ | ⟨e, _, _, _, r⟩
      ·rw [e, show qt_W0 n (0, _) = _ from r, Bool.true_and]
       rcases r2 with ⟨e, r⟩ | ⟨e, _, _, _, r⟩
       ·rw [e, Bool.true_and]
        show ((qt_W2 n (0, (mtup a, mtup b))).bind _) = _
        rw [r]
        rcases r6 with ⟨e, r⟩ | ⟨e, _, _, _, r⟩
        ·rw [e, Bool.true_and]
         show ((qt_W6 n (0, (mtup a, mtup b))).bind _) = _
         rw [r]
         rcases refSame8 n a b h4 hL hn with ⟨e, r⟩ | ⟨e, _, _, _, r⟩
         ·rw [e, Bool.true_and]
          show ((qt_W8 n (0, (mtup a, mtup b))).bind _) = _
          rw [r]
          rcases refSame10 n a b h5 hL hn with ⟨e, r⟩ | ⟨e, _, _, _, r⟩
          ·rw [e]
           show ((qt_W10 n (0, (mtup a, mtup b))).bind _) = _
           rw [r]; rfl
          ·rw [e]
           show ((qt_W10 n (0, (mtup a, mtup b))).bind _) = _
           rw [r]; rfl
         ·rw [e, Bool.false_and]
          show ((qt_W8 n (0, (mtup a, mtup b))).bind _) = _
          rw [r]; rfl
        ·rw [e, Bool.false_and]
         show ((qt_W6 n (0, (mtup a, mtup b))).bind _) = _
         rw [r]; rfl
       ·rw [e, Bool.false_and]
        show ((qt_W2 n (0, (mtup a, mtup b))).bind _) = _
        rw [r]; rfl
      ·rw [e, show qt_W0 n (0, _) = _ from r, Bool.false_and]; rfl
     ·rw [decide_eq_false h5]; simp [h1, h2, h3, h4]
    ·rw [decide_eq_false h4]; simp [h1, h2, h3]
   ·rw [decide_eq_false h3]; simp [h1, h2]
  ·rw [decide_eq_false h2]; simp [h1]
 ·rw [decide_eq_false h1]; simp
end Sx
end
section
/- The statement on modules that are the same. -/
set_option linter.unusedVariables false
set_option linter.unusedSimpArgs false
set_option maxRecDepth 100000
namespace Sx
open Go Go.Ab
theorem zeO (x : TyD) : eqT x x = true := by simp [eqT]
theorem znx (x : InD) : eqI x x = true := by simp [eqI]
theorem znt (l : List TyD) : eqTs l l = true := zam l fun x _ => zeO x
theorem zoo (x : FnD) : eqF x x = true := by
 unfold eqF
 rw [zam x.1 fun x _ => zeO x, zam x.2.2.2.1 fun x _ => zeO x, zam x.2.2.2.2 fun x _ => znx x]
 simp
theorem zoi (x : ImD) : eqM x x = true := by
 unfold eqM
 rw [zam x.1 fun x _ => zeO x]
 simp
theorem zlK (a : ModD) : sameV a a = true := by
 unfold sameV
 rw [zam a.recs fun x _ => znt x, zam a.funcs fun x _ => zoo x, zam a.imps fun x _ => zoi x, zam a.ints fun x _ => by simp [eqN], zam a.texts fun x _ => by simp [eqS]]
 rfl
end Sx
end
section
/- Readers: what the printed functions come to. -/
set_option linter.unusedVariables false
set_option linter.unusedSimpArgs false
namespace Sx
open Go Go.Ab
def takeV (k : Int) (xs : List Int) (bad : Bool) : List Int × List Int × Bool :=
 if bad = true ∨ k < 0 ∨ k > xs.length then ([], xs, true) else (xs.take k.toNat, xs.drop k.toNat, false)
theorem zdD (n : Nat) (k : Int) (xs : List Int) (bad : Bool) (hx : xs.length ≤ 4294967296) : qay n k xs bad = some (takeV k xs bad) := by
 unfold qay takeV
 simp only [qbc, qar, Option.bind_some]
 cases bad with
 | true => rfl
 | false =>
  simp only [cond_false, Bool.false_eq_true, false_or]
  by_cases h1 : k < 0
  ·rw [decide_eq_true h1, if_pos (.inl h1)]; rfl
  ·rw [decide_eq_false h1, cond_false, zd]
   by_cases h2 : k > (xs.length : Int)
   ·rw [decide_eq_true h2, if_pos (.inr h2)]; rfl
   ·rw [decide_eq_false h2, if_neg (by omega), cond_false, decide_eq_true (by omega : (0 : Int) ≤ k), decide_eq_true (by omega : k ≤ ((xs.length : Nat) : Int)), zo (by rw [List.length_take]; omega)]
    simp only [Bool.and_self, cond_true, List.take_length]
theorem ziV (k : Int) (xs : List Int) (bad : Bool) : (takeV k xs bad).2.1.length ≤ xs.length ∧ (takeV k xs bad).1.length ≤ xs.length := by
 unfold takeV
 split
 ·exact ⟨Nat.le_refl _, by simp⟩
 ·exact ⟨by simp, by simp; omega⟩
theorem mul7 : ∀ k : Nat, k ≤ 9 → (decide (0 ≤ mulI .i64 7 (k : Int))) = true ∧ mulI .i64 7 (k : Int) = ((7 * k : Nat) : Int) := by decide
def vstep (v x : Int) (k : Nat) : Int := orI .u64 v (shlI .u64 (cvtI .u64 (andNotI .u8 x 128)) ((7 * k : Nat) : Int))
def varR : List Int → Nat → Int → Int × List Int × Bool
 | [], _, _ => (0, [], true)
 | x :: xs, k, v => if (k = 9 ∧ x > 1) ∨ (k > 0 ∧ x = 0) then (0, xs, true) else if x < 128 then (vstep v x k, xs, false) else varR xs (k + 1) (vstep v x k)
def varV (xs : List Int) (bad : Bool) : Int × List Int × Bool := if bad = true then (0, xs, true) else varR xs 0 0
theorem zkm (n : Nat) : ∀ (xs : List Int) (k : Nat) (v : Int) (m : Nat), k ≤ 9 → xs.length ≤ 4294967296 → 10 - k < m → loopS (fun s => qbg_B0 n s.1.1 s.1.2 s.2.1 s.2.2) m ((v, (k : Int)), (xs, false)) = some (varR xs k v)
 | [], k, v, m + 1, hk, hx, hm => by
  refine zr ?_
  show qbg_B0 n v (k : Int) [] false = _
  unfold qbg_B0
  rw [zdD n 1 [] false (by simp), Option.bind_some]
  rfl
 | x :: xs, k, v, m + 1, hk, hx, hm => by
  have ht : takeV 1 (x :: xs) false = ([x], xs, false) := by
   unfold takeV
   rw [if_neg (by simp; omega)]
   rfl
  have hB : qbg_B0 n v (k : Int) (x :: xs) false = if (k = 9 ∧ x > 1) ∨ (k > 0 ∧ x = 0) then some (Sum.inr (0, (xs, true))) else if x < 128 then some (Sum.inr (vstep v x k, (xs, false))) else some (Sum.inl ((vstep v x k, ((k + 1 : Nat) : Int)), (xs, false))) := by
   unfold qbg_B0
   rw [zdD n 1 (x :: xs) false hx, ht, Option.bind_some]
   simp only [qar, Option.bind_some]
   rw [show getI [x] 0 = some x from rfl, show (lenI [x] == 0) = false from rfl, cond_false, Option.bind_some, (mul7 k hk).1, (mul7 k hk).2, zk (by omega)]
   simp only [cond_true]
   have e9 : ((k : Int) == 9) = decide (k = 9) := by
    by_cases h : k = 9
    ·subst h; rfl
    ·rw [decide_eq_false h, beq_eq_false_iff_ne]; omega
   have e0 : decide ((k : Int) > 0) = decide (k > 0) := by
    by_cases h : k > 0
    ·rw [decide_eq_true h, decide_eq_true (by omega)]
    ·rw [decide_eq_false h, decide_eq_false (by omega)]
   rw [e9, e0]
   unfold vstep
   by_cases h9 : k = 9
   ·subst h9
    by_cases hx1 : x > 1
    ·rw [if_pos (.inl ⟨rfl, hx1⟩), decide_eq_true hx1]; rfl
    ·by_cases hx0 : x = 0
     ·subst hx0; rw [if_pos (.inr ⟨by omega, rfl⟩)]; rfl
     ·rw [if_neg (by omega), decide_eq_false hx1, show (x == 0) = false from beq_eq_false_iff_ne.2 hx0, if_pos (by omega), decide_eq_true (by omega : x < 128)]; rfl
   ·rw [decide_eq_false h9, cond_false]
    by_cases hk0 : k > 0
    ·rw [decide_eq_true hk0, cond_true]
     by_cases hx0 : x = 0
     ·subst hx0; rw [if_pos (.inr ⟨hk0, rfl⟩)]; rfl
     ·rw [if_neg (by omega), show (x == 0) = false from beq_eq_false_iff_ne.2 hx0, cond_false]
      by_cases h128 : x < 128
      ·rw [if_pos h128, decide_eq_true h128]; rfl
      ·rw [if_neg h128, decide_eq_false h128]; rfl
    ·rw [decide_eq_false hk0, cond_false, if_neg (by omega)]
     by_cases h128 : x < 128
     ·rw [if_pos h128, decide_eq_true h128]; rfl
     ·rw [if_neg h128, decide_eq_false h128]; rfl
  unfold varR
  by_cases hc : (k = 9 ∧ x > 1) ∨ (k > 0 ∧ x = 0)
  ·rw [if_pos hc] at hB ⊢
   exact zr hB
  ·rw [if_neg hc] at hB ⊢
   by_cases h128 : x < 128
   ·rw [if_pos h128] at hB ⊢
    exact zr hB
   ·rw [if_neg h128] at hB ⊢
    have hk9 : k ≠ 9 := by intro h; apply hc; left; exact ⟨h, by omega⟩
    rw [zA (s := ((v, (k : Int)), (x :: xs, false))) hB]
    exact zkm n xs (k + 1) (vstep v x k) m (by omega) (by simp at hx; omega) (by omega)
 | _, _, _, 0, _, _, hm => by omega
theorem zev (n : Nat) (xs : List Int) (bad : Bool) (hx : xs.length ≤ 4294967296) (hn : 20 ≤ n) : qbg n xs bad = some (varV xs bad) := by
 unfold qbg varV
 cases bad with
 | true =>
  have hB : qbg_B0 n 0 0 xs true = some (Sum.inr (0, (xs, true))) := by
   unfold qbg_B0
   rw [zdD n 1 xs true hx, Option.bind_some]
   rfl
  have : qbg_W0 n ((0, 0), (xs, true)) = some (0, (xs, true)) := by
   obtain ⟨m, rfl⟩ : ∃ m, n = m + 1 := ⟨n - 1, by omega⟩
   exact zr hB
  rw [this]; rfl
 | false =>
  have : qbg_W0 n ((0, 0), (xs, false)) = some (varR xs 0 0) := zkm n xs 0 0 n (by omega) hx (by omega)
  rw [this]; rfl
theorem zjh (a b : Int) : 0 ≤ orI .u64 a b ∧ orI .u64 a b ≤ 18446744073709551615 := by
 have h : ∀ n, IntKind.u64.wrap n = n % 18446744073709551616 := fun n => by simp [IntKind.wrap, IntKind.bits, IntKind.signed]
 unfold orI
 rw [h]
 omega
theorem zjU : ∀ (xs : List Int) (k : Nat) (v : Int), (varR xs k v).2.1.length ≤ xs.length
 | [], k, v => Nat.le_refl _
 | x :: xs, k, v => by
  unfold varR
  split
  ·simp
  ·split
   ·simp
   ·have := zjU xs (k + 1) (vstep v x k)
    simp; omega
theorem zhu : ∀ (xs : List Int) (k : Nat) (v : Int), 0 ≤ (varR xs k v).1 ∧ (varR xs k v).1 ≤ 18446744073709551615
 | [], k, v => by simp [varR]
 | x :: xs, k, v => by
  unfold varR
  split
  ·simp
  ·split
   ·exact zjh _ _
   ·exact zhu xs (k + 1) (vstep v x k)
theorem zbh (xs : List Int) (bad : Bool) : (varV xs bad).2.1.length ≤ xs.length := by
 unfold varV
 split
 ·exact Nat.le_refl _
 ·exact zjU xs 0 0
theorem zaa (xs : List Int) (bad : Bool) : 0 ≤ (varV xs bad).1 ∧ (varV xs bad).1 ≤ 18446744073709551615 := by
 unfold varV
 split
 ·simp
 ·exact zhu xs 0 0
def countV (most : Int) (bad : Bool) (xs : List Int) (b : Bool) : Int × Bool × List Int × Bool :=
 if (varV xs b).2.2 = true ∨ (varV xs b).1 > most then (0, true, (varV xs b).2) else ((varV xs b).1, bad, (varV xs b).2)
theorem zZ (most : Int) (bad : Bool) (xs : List Int) (b : Bool) : (countV most bad xs b).2.2.1.length ≤ xs.length := by
 unfold countV
 split <;> exact zbh xs b
theorem zae (most : Int) (hm : 0 ≤ most) (bad : Bool) (xs : List Int) (b : Bool) : 0 ≤ (countV most bad xs b).1 ∧ (countV most bad xs b).1 ≤ most := by
 unfold countV
 have := zaa xs b
 split
 ·simp; exact hm
 ·rename_i h
  constructor
  ·exact this.1
  ·have := fun h' => h (.inr h')
   simp only at this ⊢
   omega
theorem zaK (n : Nat) (most : Int) (recs : Int) (bad : Bool) (xs : List Int) (b : Bool) (hm : 0 ≤ most ∧ most ≤ 1000) (hx : xs.length ≤ 4294967296) (hn : 20 ≤ n) :
  qn n most recs bad xs b = some ((countV most bad xs b).1, ((recs, (countV most bad xs b).2.1), (countV most bad xs b).2.2)) := by
 unfold qn countV
 have hr := zaa xs b
 rw [zev n xs b hx hn]
 simp only [qbc, Option.bind_some]
 rw [zB hm.1 (by omega)]
 cases hb : (varV xs b).2.2 with
 | true => rw [if_pos (.inl rfl)]; simp only [cond_true]; rw [← hb]
 | false =>
  simp only [cond_false, Bool.false_eq_true, false_or]
  by_cases h : (varV xs b).1 > most
  ·rw [if_pos h, decide_eq_true h]; simp only [cond_true]; rw [← hb]
  ·rw [if_neg h, decide_eq_false h, zaT (by omega) (by omega)]; simp only [cond_false]; rw [← hb]
def rlistV {A : Type} (one : Bool → List Int → Bool → A × Bool × List Int × Bool) : Nat → List A → Bool → List Int → Bool → List A × Bool × List Int × Bool
 | 0, acc, bad, xs, b => (acc, bad, xs, b)
 | j + 1, acc, bad, xs, b => if bad = true then (acc, bad, xs, b) else rlistV one j (acc ++ [(one bad xs b).1]) (one bad xs b).2.1 (one bad xs b).2.2.1 (one bad xs b).2.2.2
theorem zaM {A S X : Type} {B : S → Option (S ⊕ X)} {mk : Nat → List A → Bool → List Int → Bool → S} {fin : List A × Bool × List Int × Bool → X} {one : Bool → List Int → Bool → A × Bool × List Int × Bool} {t M : Nat}
  (h1 : ∀ bad xs b, (one bad xs b).2.2.1.length ≤ xs.length)
  (hB : ∀ i acc bad xs b, i < t → acc.length = i → xs.length ≤ M → B (mk i acc bad xs b) = if bad = true then some (.inr (fin (acc, bad, xs, b))) else some (.inl (mk (i + 1) (acc ++ [(one bad xs b).1]) (one bad xs b).2.1 (one bad xs b).2.2.1 (one bad xs b).2.2.2)))
  (he : ∀ acc bad xs b, B (mk t acc bad xs b) = some (.inr (fin (acc, bad, xs, b)))) : ∀ (j i n : Nat) (acc : List A) (bad : Bool) (xs : List Int) (b : Bool), i + j = t → j < n → acc.length = i → xs.length ≤ M →
  loopS B n (mk i acc bad xs b) = some (fin (rlistV one j acc bad xs b))
 | 0, i, n + 1, acc, bad, xs, b, hi, hn, ha, hx => by
  obtain rfl : i = t := by omega
  exact zr (he acc bad xs b)
 | j + 1, i, n + 1, acc, bad, xs, b, hi, hn, ha, hx => by
  have h := hB i acc bad xs b (by omega) ha hx
  unfold rlistV
  cases bad with
  | true => exact zr h
  | false =>
   rw [if_neg (by simp)] at h ⊢
   rw [zA h]
   exact zaM h1 hB he j (i + 1) n _ _ _ _ (by omega) (by omega) (by simp [ha]) (Nat.le_trans (h1 _ _ _) hx)
 | _, _, 0, _, _, _, _, _, hn, _, _ => by omega
theorem zhM {A : Type} {one : Bool → List Int → Bool → A × Bool × List Int × Bool} (h1 : ∀ bad xs b, (one bad xs b).2.2.1.length ≤ xs.length) : ∀ (j : Nat) (acc : List A) (bad : Bool) (xs : List Int) (b : Bool), (rlistV one j acc bad xs b).2.2.1.length ≤ xs.length
 | 0, acc, bad, xs, b => Nat.le_refl _
 | j + 1, acc, bad, xs, b => by
  unfold rlistV
  split
  ·exact Nat.le_refl _
  ·exact Nat.le_trans (zhM h1 j _ _ _ _) (h1 _ _ _)
theorem zhL {A : Type} {one : Bool → List Int → Bool → A × Bool × List Int × Bool} {p : A → Prop} (h1 : ∀ bad xs b, p (one bad xs b).1) : ∀ (j : Nat) (acc : List A) (bad : Bool) (xs : List Int) (b : Bool), (∀ x ∈ acc, p x) → ∀ x ∈ (rlistV one j acc bad xs b).1, p x
 | 0, acc, bad, xs, b, h => h
 | j + 1, acc, bad, xs, b, h => by
  unfold rlistV
  split
  ·exact h
  ·exact zhL h1 j _ _ _ _ (fun x hx => by
    rcases List.mem_append.1 hx with hx | hx
    ·exact h x hx
    ·rw [List.mem_singleton.1 hx]; exact h1 _ _ _)
def clistV {A : Type} (one : Bool → List Int → Bool → A × Bool × List Int × Bool) (most : Int) (bad : Bool) (xs : List Int) (b : Bool) : List A × Bool × List Int × Bool :=
 rlistV one (countV most bad xs b).1.toNat [] (countV most bad xs b).2.1 (countV most bad xs b).2.2.1 (countV most bad xs b).2.2.2
theorem zal {A : Type} {one : Bool → List Int → Bool → A × Bool × List Int × Bool} (h1 : ∀ bad xs b, (one bad xs b).2.2.1.length ≤ xs.length) (most : Int) (bad : Bool) (xs : List Int) (b : Bool) : (clistV one most bad xs b).2.2.1.length ≤ xs.length :=
 Nat.le_trans (zhM h1 _ _ _ _ _) (zZ most bad xs b)
def getV (recs : Int) (xs : List Int) (b : Bool) : TyD × Bool × List Int × Bool :=
 let r := varV xs b
 let q := varV r.2.1 r.2.2
 if q.2.2 = true ∨ r.1 > 8 ∨ q.1 > 255 ∨ goodV recs (r.1, q.1) = false then ((0, 0), false, q.2) else ((r.1, q.1), true, q.2)
theorem zku (recs : Int) (xs : List Int) (b : Bool) : (getV recs xs b).2.2.1.length ≤ xs.length := by
 unfold getV
 simp only
 split <;> exact Nat.le_trans (zbh _ _) (zbh xs b)
theorem qcn_eq (n : Nat) (recs : Int) (xs : List Int) (b : Bool) (hx : xs.length ≤ 4294967296) (hn : 20 ≤ n) : qcn n recs xs b = some (((getV recs xs b).1, (getV recs xs b).2.1), (getV recs xs b).2.2) := by
 unfold qcn getV
 have hl := zbh xs b
 rw [zev n xs b hx hn, Option.bind_some, zev n _ _ (by omega) hn]
 simp only [qbc, Option.bind_some]
 have h1 := zaa xs b
 have h2 := zaa (varV xs b).2.1 (varV xs b).2.2
 generalize varV xs b = r at h1 h2 hl ⊢
 generalize varV r.2.1 r.2.2 = q at h2 ⊢
 obtain ⟨v, xs1, b1⟩ := r
 obtain ⟨u, xs2, b2⟩ := q
 simp only at h1 h2 ⊢
 cases b2 with
 | true => rw [if_pos (.inl rfl)]; rfl
 | false =>
  simp only [cond_false, Bool.false_eq_true, false_or]
  by_cases e1 : v > 8
  ·rw [if_pos (.inl e1), decide_eq_true e1]; rfl
  ·rw [decide_eq_false e1, cond_false]
   by_cases e2 : u > 255
   ·rw [if_pos (.inr (.inl e2)), decide_eq_true e2]; rfl
   ·rw [decide_eq_false e2, cond_false, zaT (by omega) (by omega), zaT (by omega) (by omega), show qck n v u recs = some (goodV recs (v, u)) from zfm n (v, u) recs, Option.bind_some]
    cases hg : goodV recs (v, u) with
    | true => rw [if_neg (by simp [e1, e2])]; rfl
    | false => rw [if_pos (by simp)]; rfl
def oneV (recs : Int) (bad : Bool) (xs : List Int) (b : Bool) : TyD × Bool × List Int × Bool := ((getV recs xs b).1, bad || !(getV recs xs b).2.1, (getV recs xs b).2.2)
theorem zlV (n : Nat) (recs : Int) (bad : Bool) (xs : List Int) (b : Bool) (hx : xs.length ≤ 4294967296) (hn : 20 ≤ n) : qw n recs bad xs b = some ((oneV recs bad xs b).1, ((recs, (oneV recs bad xs b).2.1), (oneV recs bad xs b).2.2)) := by
 unfold qw oneV
 rw [qcn_eq n recs xs b hx hn, Option.bind_some]
 cases bad <;> rfl
theorem zbt (n : Nat) (most recs : Int) (bad : Bool) (xs : List Int) (b : Bool) (hm : 0 ≤ most ∧ most ≤ 1000) (hx : xs.length ≤ 4294967296) (hn : 2000 ≤ n) :
  qb n most recs bad xs b = some ((clistV (oneV recs) most bad xs b).1, ((recs, (clistV (oneV recs) most bad xs b).2.1), (clistV (oneV recs) most bad xs b).2.2)) := by
 unfold qb
 rw [zaK n most recs bad xs b hm hx (by omega), Option.bind_some]
 unfold clistV
 have hc := zae most hm.1 bad xs b
 have hl := zZ most bad xs b
 generalize countV most bad xs b = c at hc hl ⊢
 obtain ⟨c0, bad1, xs1, b1⟩ := c
 simp only at hc hl ⊢
 obtain ⟨t, rfl⟩ : ∃ t : Nat, c0 = (t : Int) := ⟨c0.toNat, by omega⟩
 have h := zaM (B := fun s => qb_B0 n s.1.1 s.1.2 s.2.1.1 s.2.1.2 s.2.2.1.1 s.2.2.1.2 s.2.2.2) (mk := fun (i : Nat) acc bad xs b => (((t : Int), (i : Int)), ((recs, bad), ((xs, b), acc)))) (fin := fun r => ((recs, r.2.1), (r.2.2, r.1))) (one := oneV recs) (t := t) (M := 4294967296) (fun bad xs b => zku recs xs b)
  (fun i acc bad xs b hi ha hx => by
   show qb_B0 n (t : Int) (i : Int) recs bad xs b acc = _
   unfold qb_B0
   rw [decide_eq_true (by omega), cond_true, zlV n recs bad xs b hx (by omega), Option.bind_some, zk (by omega), zo (by simp; omega), cond_true]
   cases bad <;> rfl)
  (fun acc bad xs b => by
   show qb_B0 n (t : Int) (t : Int) recs bad xs b acc = _
   unfold qb_B0
   rw [decide_eq_false (by omega), cond_false]) t 0 n [] bad1 xs1 b1 (by omega) (by omega) rfl (by omega)
 rw [show qb_W0 n (((t : Int), 0), ((recs, bad1), ((xs1, b1), []))) = _ from h, Option.bind_some]
 rfl
end Sx
end
section
/- Readers: instructions, functions, imports, numbers, texts. -/
set_option linter.unusedVariables false
set_option linter.unusedSimpArgs false
namespace Sx
open Go Go.Ab
noncomputable def fixedV (k : Int) (xs : List Int) (b : Bool) : Int × List Int × Bool := (fixV (takeV (minI (maxI k 0) 8) xs b).1, (takeV (minI (maxI k 0) 8) xs b).2)
theorem zjW (n : Nat) (k : Int) (xs : List Int) (b : Bool) (hx : xs.length ≤ 4294967296) : qai n k xs b = some (fixedV k xs b) := by
 unfold qai fixedV
 rw [zdD n _ xs b hx, Option.bind_some]
theorem zee (k : Int) (xs : List Int) (b : Bool) : (fixedV k xs b).2.1.length ≤ xs.length := (ziV _ xs b).1
theorem zlN (l : List Int) : 0 ≤ fixV l ∧ fixV l ≤ 18446744073709551615 := by
 cases l with
 | nil => simp [fixV]
 | cons x l => exact zjh _ _
noncomputable def instV (xs : List Int) (b : Bool) : InD × Bool × List Int × Bool :=
 let f := fixedV 1 xs b
 let op := cvtI .i64 f.1
 if f.2.2 = true ∨ argsV op < 0 then ((0, 0, 0), false, f.2) else
 if argsV op = 0 then ((op, 0, 0), true, f.2) else
 let q := varV f.2.1 f.2.2
 if q.2.2 = true ∨ q.1 > 255 then ((0, 0, 0), false, q.2) else
 if argsV op = 1 then ((op, q.1, 0), true, q.2) else
 let p := varV q.2.1 q.2.2
 if p.2.2 = true ∨ p.1 > 255 then ((0, 0, 0), false, p.2) else ((op, q.1, p.1), true, p.2)
theorem znq (xs : List Int) (b : Bool) : (instV xs b).2.2.1.length ≤ xs.length := by
 have h1 := zee 1 xs b
 have h2 := zbh (fixedV 1 xs b).2.1 (fixedV 1 xs b).2.2
 have h3 := zbh (varV (fixedV 1 xs b).2.1 (fixedV 1 xs b).2.2).2.1 (varV (fixedV 1 xs b).2.1 (fixedV 1 xs b).2.2).2.2
 unfold instV
 simp only
 split
 ·exact h1
 ·split
  ·exact h1
  ·split
   ·simp only; omega
   ·split
    ·simp only; omega
    ·split <;> (simp only; omega)
theorem zhq (n : Nat) (op t k : Int) (xs : List Int) (b : Bool) (a0 a1 a2 u v : Int) (h : ¬ k < t) : qcq_B0 n op t k xs b a0 a1 a2 u v = some (Sum.inr (Sum.inr (op, ((xs, b), ((a0, (a1, a2)), (u, v)))))) := by
 unfold qcq_B0
 rw [decide_eq_false h, cond_false]
theorem zpj (n : Nat) (op t : Int) (xs : List Int) (b : Bool) (a0 a1 a2 u v : Int) (h : 0 < t) (hx : xs.length ≤ 4294967296) (hn : 20 ≤ n) :
  qcq_B0 n op t 0 xs b a0 a1 a2 u v = if (varV xs b).2.2 = true ∨ (varV xs b).1 > 255 then some (Sum.inr (Sum.inl (false, ((varV xs b).2, ((0, (0, 0)), ((varV xs b).1, v)))))) else some (Sum.inl ((op, (t, 1)), ((varV xs b).2, ((a0, (a1, a2)), ((varV xs b).1, v))))) := by
 unfold qcq_B0
 rw [decide_eq_true h, cond_true, zev n xs b hx hn]
 simp only [qbc, Option.bind_some]
 generalize varV xs b = r
 obtain ⟨w, xs1, b1⟩ := r
 cases b1 with
 | true => rw [if_pos (.inl rfl)]; rfl
 | false =>
  by_cases h2 : w > 255
  ·rw [if_pos (.inr h2), decide_eq_true h2]; rfl
  ·rw [if_neg (by simp [h2]), decide_eq_false h2]; rfl
theorem zpb (n : Nat) (op t : Int) (xs : List Int) (b : Bool) (a0 a1 a2 u v : Int) (h : 1 < t) (hx : xs.length ≤ 4294967296) (hn : 20 ≤ n) :
  qcq_B0 n op t 1 xs b a0 a1 a2 u v = if (varV xs b).2.2 = true ∨ (varV xs b).1 > 255 then some (Sum.inr (Sum.inl (false, ((varV xs b).2, ((0, (0, 0)), (u, (varV xs b).1)))))) else some (Sum.inl ((op, (t, 2)), ((varV xs b).2, ((a0, (a1, a2)), (u, (varV xs b).1))))) := by
 unfold qcq_B0
 rw [decide_eq_true h, cond_true, zev n xs b hx hn]
 simp only [qbc, Option.bind_some]
 generalize varV xs b = r
 obtain ⟨w, xs1, b1⟩ := r
 cases b1 with
 | true => rw [if_pos (.inl rfl)]; rfl
 | false =>
  by_cases h2 : w > 255
  ·rw [if_pos (.inr h2), decide_eq_true h2]; rfl
  ·rw [if_neg (by simp [h2]), decide_eq_false h2]; rfl
theorem zoN (n : Nat) (xs : List Int) (b : Bool) (hx : xs.length ≤ 4294967296) (hn : 20 ≤ n) : qcq n xs b = some (((instV xs b).1, (instV xs b).2.1), (instV xs b).2.2) := by
 unfold qcq instV
 have h1 := zee 1 xs b
 rw [zjW n 1 xs b hx]
 simp only [qbc, Option.bind_some, qcl_eq]
 generalize fixedV 1 xs b = f at h1 ⊢
 obtain ⟨v, xs1, b1⟩ := f
 simp only at h1 ⊢
 have h2 := zbh xs1 b1
 cases b1 with
 | true => rw [if_pos (.inl rfl)]; rfl
 | false =>
  simp only [cond_false, Bool.false_eq_true, false_or]
  generalize cvtI .i64 v = op
  by_cases e : argsV op < 0
  ·rw [if_pos e, decide_eq_true e]; rfl
  ·rw [if_neg e, decide_eq_false e, cond_false]
   obtain ⟨m, rfl⟩ : ∃ m, n = m + 3 := ⟨n - 3, by omega⟩
   have hr := zbO op
   by_cases e0 : argsV op = 0
   ·rw [if_pos e0, e0]
    have : qcq_W0 (m + 3) ((op, (0, 0)), ((xs1, false), ((0, (0, 0)), (0, 0)))) = some (Sum.inr (op, ((xs1, false), ((0, (0, 0)), (0, 0))))) := zr (zhq (m + 3) op 0 0 xs1 false 0 0 0 0 0 (by omega))
    rw [this]; rfl
   ·rw [if_neg e0]
    have hB0 := zpj (m + 3) op (argsV op) xs1 false 0 0 0 0 0 (by omega) (by omega) hn
    by_cases c0 : (varV xs1 false).2.2 = true ∨ (varV xs1 false).1 > 255
    ·rw [if_pos c0] at hB0 ⊢
     have : qcq_W0 (m + 3) ((op, (argsV op, 0)), ((xs1, false), ((0, (0, 0)), (0, 0)))) = some (Sum.inl (false, ((varV xs1 false).2, ((0, (0, 0)), ((varV xs1 false).1, 0))))) := zr hB0
     rw [this]; rfl
    ·rw [if_neg c0] at hB0 ⊢
     have hv := zaa xs1 false
     have hq : (varV xs1 false).1 ≤ 255 := Int.not_lt.mp fun h => c0 (.inr h)
     have hl2 := zbh (varV xs1 false).2.1 (varV xs1 false).2.2
     by_cases e1 : argsV op = 1
     ·rw [if_pos e1]
      rw [e1] at hB0 ⊢
      have : qcq_W0 (m + 3) ((op, (1, 0)), ((xs1, false), ((0, (0, 0)), (0, 0)))) = some (Sum.inr (op, ((varV xs1 false).2, ((0, (0, 0)), ((varV xs1 false).1, 0))))) := by
       refine (zA (s := ((op, (1, 0)), ((xs1, false), ((0, (0, 0)), (0, 0))))) hB0).trans (zr ?_)
       exact zhq (m + 3) op 1 1 _ _ 0 0 0 _ 0 (by omega)
      rw [this]
      show some (((op, (cvtI .i64 (varV xs1 false).1, cvtI .i64 0)), true), (varV xs1 false).2) = _
      rw [zaT (by omega) (by omega)]; rfl
     ·rw [if_neg e1]
      have e2 : argsV op = 2 := by omega
      rw [e2] at hB0 ⊢
      have hB1 := zpb (m + 3) op 2 (varV xs1 false).2.1 (varV xs1 false).2.2 0 0 0 (varV xs1 false).1 0 (by omega) (by omega) hn
      by_cases c1 : (varV (varV xs1 false).2.1 (varV xs1 false).2.2).2.2 = true ∨ (varV (varV xs1 false).2.1 (varV xs1 false).2.2).1 > 255
      ·rw [if_pos c1] at hB1 ⊢
       have : qcq_W0 (m + 3) ((op, (2, 0)), ((xs1, false), ((0, (0, 0)), (0, 0)))) = some (Sum.inl (false, ((varV (varV xs1 false).2.1 (varV xs1 false).2.2).2, ((0, (0, 0)), ((varV xs1 false).1, (varV (varV xs1 false).2.1 (varV xs1 false).2.2).1))))) :=
        (zA (s := ((op, (2, 0)), ((xs1, false), ((0, (0, 0)), (0, 0))))) hB0).trans (zr hB1)
       rw [this]; rfl
      ·rw [if_neg c1] at hB1 ⊢
       have hv2 := zaa (varV xs1 false).2.1 (varV xs1 false).2.2
       have hq2 : (varV (varV xs1 false).2.1 (varV xs1 false).2.2).1 ≤ 255 := Int.not_lt.mp fun h => c1 (.inr h)
       have : qcq_W0 (m + 3) ((op, (2, 0)), ((xs1, false), ((0, (0, 0)), (0, 0)))) = some (Sum.inr (op, ((varV (varV xs1 false).2.1 (varV xs1 false).2.2).2, ((0, (0, 0)), ((varV xs1 false).1, (varV (varV xs1 false).2.1 (varV xs1 false).2.2).1))))) :=
        (zA (s := ((op, (2, 0)), ((xs1, false), ((0, (0, 0)), (0, 0))))) hB0).trans ((zA (s := ((op, (2, 1)), ((varV xs1 false).2, ((0, (0, 0)), ((varV xs1 false).1, 0))))) hB1).trans (zr (zhq (m + 3) op 2 2 _ _ 0 0 0 _ _ (by omega))))
       rw [this]
       show some (((op, (cvtI .i64 (varV xs1 false).1, cvtI .i64 (varV (varV xs1 false).2.1 (varV xs1 false).2.2).1)), true), (varV (varV xs1 false).2.1 (varV xs1 false).2.2).2) = _
       rw [zaT (by omega) (by omega), zaT (by omega) (by omega)]
theorem zaz (recs : Int) (bad : Bool) (xs : List Int) (b : Bool) : (oneV recs bad xs b).2.2.1.length ≤ xs.length := zku recs xs b
noncomputable def instrV (recs : Int) (bad : Bool) (xs : List Int) (b : Bool) : InD × Bool × List Int × Bool := ((instV xs b).1, bad || !(instV xs b).2.1, (instV xs b).2.2)
theorem zia (recs : Int) (bad : Bool) (xs : List Int) (b : Bool) : (instrV recs bad xs b).2.2.1.length ≤ xs.length := znq xs b
theorem zon (n : Nat) (recs : Int) (bad : Bool) (xs : List Int) (b : Bool) (hx : xs.length ≤ 4294967296) (hn : 2000 ≤ n) : ql n recs bad xs b = some ((instrV recs bad xs b).1, ((recs, (instrV recs bad xs b).2.1), (instrV recs bad xs b).2.2)) := by
 unfold ql instrV
 rw [zoN n xs b hx (by omega), Option.bind_some]
 cases bad <;> rfl
theorem qg_eq (n : Nat) (most recs : Int) (bad : Bool) (xs : List Int) (b : Bool) (hm : 0 ≤ most ∧ most ≤ 1000) (hx : xs.length ≤ 4294967296) (hn : 2000 ≤ n) :
  qg n most recs bad xs b = some ((clistV (instrV recs) most bad xs b).1, ((recs, (clistV (instrV recs) most bad xs b).2.1), (clistV (instrV recs) most bad xs b).2.2)) := by
 unfold qg
 rw [zaK n most recs bad xs b hm hx (by omega), Option.bind_some]
 unfold clistV
 have hc := zae most hm.1 bad xs b
 have hl := zZ most bad xs b
 generalize countV most bad xs b = c at hc hl ⊢
 obtain ⟨c0, bad1, xs1, b1⟩ := c
 simp only at hc hl ⊢
 obtain ⟨t, rfl⟩ : ∃ t : Nat, c0 = (t : Int) := ⟨c0.toNat, by omega⟩
 have h := zaM (B := fun s => qg_B0 n s.1.1 s.1.2 s.2.1.1 s.2.1.2 s.2.2.1.1 s.2.2.1.2 s.2.2.2) (mk := fun (i : Nat) acc bad xs b => (((t : Int), (i : Int)), ((recs, bad), ((xs, b), acc)))) (fin := fun r => ((recs, r.2.1), (r.2.2, r.1))) (one := instrV recs) (t := t) (M := 4294967296) (fun bad xs b => zia recs bad xs b)
  (fun i acc bad xs b hi ha hx => by
   show qg_B0 n (t : Int) (i : Int) recs bad xs b acc = _
   unfold qg_B0
   rw [decide_eq_true (by omega), cond_true, zon n recs bad xs b hx (by omega), Option.bind_some, zk (by omega), zo (by simp; omega), cond_true]
   cases bad <;> rfl)
  (fun acc bad xs b => by
   show qg_B0 n (t : Int) (t : Int) recs bad xs b acc = _
   unfold qg_B0
   rw [decide_eq_false (by omega), cond_false]) t 0 n [] bad1 xs1 b1 (by omega) (by omega) rfl (by omega)
 rw [show qg_W0 n (((t : Int), 0), ((recs, bad1), ((xs1, b1), []))) = _ from h, Option.bind_some]
 rfl
noncomputable def funcV (recs : Int) (bad : Bool) (xs : List Int) (b : Bool) : FnD × Bool × List Int × Bool :=
 let a := clistV (oneV recs) 4 bad xs b
 let r := oneV recs a.2.1 a.2.2.1 a.2.2.2
 let l := clistV (oneV recs) 8 r.2.1 r.2.2.1 r.2.2.2
 let c := clistV (instrV recs) 64 l.2.1 l.2.2.1 l.2.2.2
 ((a.1, r.1.1, r.1.2, l.1, c.1), c.2)
theorem zns (recs : Int) (bad : Bool) (xs : List Int) (b : Bool) : (funcV recs bad xs b).2.2.1.length ≤ xs.length := by
 unfold funcV
 simp only
 exact Nat.le_trans (zal (zia recs) _ _ _ _) (Nat.le_trans (zal (zaz recs) _ _ _ _) (Nat.le_trans (zaz recs _ _ _) (zal (zaz recs) _ _ _ _)))
theorem zov (n : Nat) (recs : Int) (bad : Bool) (xs : List Int) (b : Bool) (hx : xs.length ≤ 4294967296) (hn : 2000 ≤ n) : qa n recs bad xs b = some ((funcV recs bad xs b).1, ((recs, (funcV recs bad xs b).2.1), (funcV recs bad xs b).2.2)) := by
 unfold qa funcV
 have l1 := zal (zaz recs) 4 bad xs b
 have l2 := zaz recs (clistV (oneV recs) 4 bad xs b).2.1 (clistV (oneV recs) 4 bad xs b).2.2.1 (clistV (oneV recs) 4 bad xs b).2.2.2
 have l3 := zal (zaz recs) 8 (oneV recs (clistV (oneV recs) 4 bad xs b).2.1 (clistV (oneV recs) 4 bad xs b).2.2.1 (clistV (oneV recs) 4 bad xs b).2.2.2).2.1 (oneV recs (clistV (oneV recs) 4 bad xs b).2.1 (clistV (oneV recs) 4 bad xs b).2.2.1 (clistV (oneV recs) 4 bad xs b).2.2.2).2.2.1 (oneV recs (clistV (oneV recs) 4 bad xs b).2.1 (clistV (oneV recs) 4 bad xs b).2.2.1 (clistV (oneV recs) 4 bad xs b).2.2.2).2.2.2
 rw [zbt n 4 recs bad xs b (by omega) hx hn, Option.bind_some]
 dsimp only
 rw [zlV n recs (clistV (oneV recs) 4 bad xs b).2.1 (clistV (oneV recs) 4 bad xs b).2.2.1 (clistV (oneV recs) 4 bad xs b).2.2.2 (by omega) (by omega), Option.bind_some]
 dsimp only
 rw [zbt n 8 recs (oneV recs (clistV (oneV recs) 4 bad xs b).2.1 (clistV (oneV recs) 4 bad xs b).2.2.1 (clistV (oneV recs) 4 bad xs b).2.2.2).2.1 (oneV recs (clistV (oneV recs) 4 bad xs b).2.1 (clistV (oneV recs) 4 bad xs b).2.2.1 (clistV (oneV recs) 4 bad xs b).2.2.2).2.2.1 (oneV recs (clistV (oneV recs) 4 bad xs b).2.1 (clistV (oneV recs) 4 bad xs b).2.2.1 (clistV (oneV recs) 4 bad xs b).2.2.2).2.2.2 (by omega) (by omega) hn, Option.bind_some]
 dsimp only
 rw [qg_eq n 64 recs (clistV (oneV recs) 8 (oneV recs (clistV (oneV recs) 4 bad xs b).2.1 (clistV (oneV recs) 4 bad xs b).2.2.1 (clistV (oneV recs) 4 bad xs b).2.2.2).2.1 (oneV recs (clistV (oneV recs) 4 bad xs b).2.1 (clistV (oneV recs) 4 bad xs b).2.2.1 (clistV (oneV recs) 4 bad xs b).2.2.2).2.2.1 (oneV recs (clistV (oneV recs) 4 bad xs b).2.1 (clistV (oneV recs) 4 bad xs b).2.2.1 (clistV (oneV recs) 4 bad xs b).2.2.2).2.2.2).2.1 (clistV (oneV recs) 8 (oneV recs (clistV (oneV recs) 4 bad xs b).2.1 (clistV (oneV recs) 4 bad xs b).2.2.1 (clistV (oneV recs) 4 bad xs b).2.2.2).2.1 (oneV recs (clistV (oneV recs) 4 bad xs b).2.1 (clistV (oneV recs) 4 bad xs b).2.2.1 (clistV (oneV recs) 4 bad xs b).2.2.2).2.2.1 (oneV recs (clistV (oneV recs) 4 bad xs b).2.1 (clistV (oneV recs) 4 bad xs b).2.2.1 (clistV (oneV recs) 4 bad xs b).2.2.2).2.2.2).2.2.1 (clistV (oneV recs) 8 (oneV recs (clistV (oneV recs) 4 bad xs b).2.1 (clistV (oneV recs) 4 bad xs b).2.2.1 (clistV (oneV recs) 4 bad xs b).2.2.2).2.1 (oneV recs (clistV (oneV recs) 4 bad xs b).2.1 (clistV (oneV recs) 4 bad xs b).2.2.1 (clistV (oneV recs) 4 bad xs b).2.2.2).2.2.1 (oneV recs (clistV (oneV recs) 4 bad xs b).2.1 (clistV (oneV recs) 4 bad xs b).2.2.1 (clistV (oneV recs) 4 bad xs b).2.2.2).2.2.2).2.2.2 (by omega) (by omega) hn, Option.bind_some]
theorem qp_eq (n : Nat) (most recs : Int) (bad : Bool) (xs : List Int) (b : Bool) (hm : 0 ≤ most ∧ most ≤ 1000) (hx : xs.length ≤ 4294967296) (hn : 2000 ≤ n) :
  qp n most recs bad xs b = some ((clistV (funcV recs) most bad xs b).1, ((recs, (clistV (funcV recs) most bad xs b).2.1), (clistV (funcV recs) most bad xs b).2.2)) := by
 unfold qp
 rw [zaK n most recs bad xs b hm hx (by omega), Option.bind_some]
 unfold clistV
 have hc := zae most hm.1 bad xs b
 have hl := zZ most bad xs b
 generalize countV most bad xs b = c at hc hl ⊢
 obtain ⟨c0, bad1, xs1, b1⟩ := c
 simp only at hc hl ⊢
 obtain ⟨t, rfl⟩ : ∃ t : Nat, c0 = (t : Int) := ⟨c0.toNat, by omega⟩
 have h := zaM (B := fun s => qp_B0 n s.1.1 s.1.2 s.2.1.1 s.2.1.2 s.2.2.1.1 s.2.2.1.2 s.2.2.2) (mk := fun (i : Nat) acc bad xs b => (((t : Int), (i : Int)), ((recs, bad), ((xs, b), acc)))) (fin := fun r => ((recs, r.2.1), (r.2.2, r.1))) (one := funcV recs) (t := t) (M := 4294967296) (fun bad xs b => zns recs bad xs b)
  (fun i acc bad xs b hi ha hx => by
   show qp_B0 n (t : Int) (i : Int) recs bad xs b acc = _
   unfold qp_B0
   rw [decide_eq_true (by omega), cond_true, zov n recs bad xs b hx (by omega), Option.bind_some, zk (by omega), zo (by simp; omega), cond_true]
   cases bad <;> rfl)
  (fun acc bad xs b => by
   show qp_B0 n (t : Int) (t : Int) recs bad xs b acc = _
   unfold qp_B0
   rw [decide_eq_false (by omega), cond_false]) t 0 n [] bad1 xs1 b1 (by omega) (by omega) rfl (by omega)
 rw [show qp_W0 n (((t : Int), 0), ((recs, bad1), ((xs1, b1), []))) = _ from h, Option.bind_some]
 rfl
def hostV (recs : Int) (bad : Bool) (xs : List Int) (b : Bool) : ImD × Bool × List Int × Bool :=
 let a := clistV (oneV recs) 4 bad xs b
 let r := oneV recs a.2.1 a.2.2.1 a.2.2.2
 ((a.1, r.1.1, r.1.2), r.2)
theorem zne (recs : Int) (bad : Bool) (xs : List Int) (b : Bool) : (hostV recs bad xs b).2.2.1.length ≤ xs.length := by
 unfold hostV
 simp only
 exact Nat.le_trans (zaz recs _ _ _) (zal (zaz recs) _ _ _ _)
theorem zow (n : Nat) (recs : Int) (bad : Bool) (xs : List Int) (b : Bool) (hx : xs.length ≤ 4294967296) (hn : 2000 ≤ n) : qq n recs bad xs b = some ((hostV recs bad xs b).1, ((recs, (hostV recs bad xs b).2.1), (hostV recs bad xs b).2.2)) := by
 unfold qq hostV
 have l1 := zal (zaz recs) 4 bad xs b
 rw [zbt n 4 recs bad xs b (by omega) hx hn, Option.bind_some]
 dsimp only
 rw [zlV n recs (clistV (oneV recs) 4 bad xs b).2.1 (clistV (oneV recs) 4 bad xs b).2.2.1 (clistV (oneV recs) 4 bad xs b).2.2.2 (by omega) (by omega), Option.bind_some]
theorem qd_eq (n : Nat) (most recs : Int) (bad : Bool) (xs : List Int) (b : Bool) (hm : 0 ≤ most ∧ most ≤ 1000) (hx : xs.length ≤ 4294967296) (hn : 2000 ≤ n) :
  qd n most recs bad xs b = some ((clistV (hostV recs) most bad xs b).1, ((recs, (clistV (hostV recs) most bad xs b).2.1), (clistV (hostV recs) most bad xs b).2.2)) := by
 unfold qd
 rw [zaK n most recs bad xs b hm hx (by omega), Option.bind_some]
 unfold clistV
 have hc := zae most hm.1 bad xs b
 have hl := zZ most bad xs b
 generalize countV most bad xs b = c at hc hl ⊢
 obtain ⟨c0, bad1, xs1, b1⟩ := c
 simp only at hc hl ⊢
 obtain ⟨t, rfl⟩ : ∃ t : Nat, c0 = (t : Int) := ⟨c0.toNat, by omega⟩
 have h := zaM (B := fun s => qd_B0 n s.1.1 s.1.2 s.2.1.1 s.2.1.2 s.2.2.1.1 s.2.2.1.2 s.2.2.2) (mk := fun (i : Nat) acc bad xs b => (((t : Int), (i : Int)), ((recs, bad), ((xs, b), acc)))) (fin := fun r => ((recs, r.2.1), (r.2.2, r.1))) (one := hostV recs) (t := t) (M := 4294967296) (fun bad xs b => zne recs bad xs b)
  (fun i acc bad xs b hi ha hx => by
   show qd_B0 n (t : Int) (i : Int) recs bad xs b acc = _
   unfold qd_B0
   rw [decide_eq_true (by omega), cond_true, zow n recs bad xs b hx (by omega), Option.bind_some, zk (by omega), zo (by simp; omega), cond_true]
   cases bad <;> rfl)
  (fun acc bad xs b => by
   show qd_B0 n (t : Int) (t : Int) recs bad xs b acc = _
   unfold qd_B0
   rw [decide_eq_false (by omega), cond_false]) t 0 n [] bad1 xs1 b1 (by omega) (by omega) rfl (by omega)
 rw [show qd_W0 n (((t : Int), 0), ((recs, bad1), ((xs1, b1), []))) = _ from h, Option.bind_some]
 rfl
noncomputable def u64V (recs : Int) (bad : Bool) (xs : List Int) (b : Bool) : Int × Bool × List Int × Bool := ((fixedV 8 xs b).1, bad, (fixedV 8 xs b).2)
theorem zop (recs : Int) (bad : Bool) (xs : List Int) (b : Bool) : (u64V recs bad xs b).2.2.1.length ≤ xs.length := zee 8 xs b
theorem zpe (n : Nat) (recs : Int) (bad : Bool) (xs : List Int) (b : Bool) (hx : xs.length ≤ 4294967296) (hn : 2000 ≤ n) : qao n recs bad xs b = some ((u64V recs bad xs b).1, ((recs, (u64V recs bad xs b).2.1), (u64V recs bad xs b).2.2)) := by
 unfold qao u64V
 rw [zjW n 8 xs b hx, Option.bind_some]
theorem qu_eq (n : Nat) (most recs : Int) (bad : Bool) (xs : List Int) (b : Bool) (hm : 0 ≤ most ∧ most ≤ 1000) (hx : xs.length ≤ 4294967296) (hn : 2000 ≤ n) :
  qu n most recs bad xs b = some ((clistV (u64V recs) most bad xs b).1, ((recs, (clistV (u64V recs) most bad xs b).2.1), (clistV (u64V recs) most bad xs b).2.2)) := by
 unfold qu
 rw [zaK n most recs bad xs b hm hx (by omega), Option.bind_some]
 unfold clistV
 have hc := zae most hm.1 bad xs b
 have hl := zZ most bad xs b
 generalize countV most bad xs b = c at hc hl ⊢
 obtain ⟨c0, bad1, xs1, b1⟩ := c
 simp only at hc hl ⊢
 obtain ⟨t, rfl⟩ : ∃ t : Nat, c0 = (t : Int) := ⟨c0.toNat, by omega⟩
 have h := zaM (B := fun s => qu_B0 n s.1.1 s.1.2 s.2.1.1 s.2.1.2 s.2.2.1.1 s.2.2.1.2 s.2.2.2) (mk := fun (i : Nat) acc bad xs b => (((t : Int), (i : Int)), ((recs, bad), ((xs, b), acc)))) (fin := fun r => ((recs, r.2.1), (r.2.2, r.1))) (one := u64V recs) (t := t) (M := 4294967296) (fun bad xs b => zop recs bad xs b)
  (fun i acc bad xs b hi ha hx => by
   show qu_B0 n (t : Int) (i : Int) recs bad xs b acc = _
   unfold qu_B0
   rw [decide_eq_true (by omega), cond_true, zpe n recs bad xs b hx (by omega), Option.bind_some, zk (by omega), zo (by simp; omega), cond_true]
   cases bad <;> rfl)
  (fun acc bad xs b => by
   show qu_B0 n (t : Int) (t : Int) recs bad xs b acc = _
   unfold qu_B0
   rw [decide_eq_false (by omega), cond_false]) t 0 n [] bad1 xs1 b1 (by omega) (by omega) rfl (by omega)
 rw [show qu_W0 n (((t : Int), 0), ((recs, bad1), ((xs1, b1), []))) = _ from h, Option.bind_some]
 rfl
def textV (recs : Int) (bad : Bool) (xs : List Int) (b : Bool) : ByteArray × Bool × List Int × Bool :=
 let c := countV 32 bad xs b
 let t := takeV c.1 c.2.2.1 c.2.2.2
 (intsBytes t.1, c.2.1, t.2)
theorem zmM (recs : Int) (bad : Bool) (xs : List Int) (b : Bool) : (textV recs bad xs b).2.2.1.length ≤ xs.length := Nat.le_trans (ziV _ _ _).1 (zZ 32 bad xs b)
theorem zox (n : Nat) (recs : Int) (bad : Bool) (xs : List Int) (b : Bool) (hx : xs.length ≤ 4294967296) (hn : 2000 ≤ n) : qap n recs bad xs b = some ((textV recs bad xs b).1, ((recs, (textV recs bad xs b).2.1), (textV recs bad xs b).2.2)) := by
 unfold qap textV
 have := zZ 32 bad xs b
 rw [zaK n 32 recs bad xs b (by omega) hx (by omega), Option.bind_some]
 dsimp only
 rw [zdD n _ _ _ (by omega), Option.bind_some]
theorem qr_eq (n : Nat) (most recs : Int) (bad : Bool) (xs : List Int) (b : Bool) (hm : 0 ≤ most ∧ most ≤ 1000) (hx : xs.length ≤ 4294967296) (hn : 2000 ≤ n) :
  qr n most recs bad xs b = some ((clistV (textV recs) most bad xs b).1, ((recs, (clistV (textV recs) most bad xs b).2.1), (clistV (textV recs) most bad xs b).2.2)) := by
 unfold qr
 rw [zaK n most recs bad xs b hm hx (by omega), Option.bind_some]
 unfold clistV
 have hc := zae most hm.1 bad xs b
 have hl := zZ most bad xs b
 generalize countV most bad xs b = c at hc hl ⊢
 obtain ⟨c0, bad1, xs1, b1⟩ := c
 simp only at hc hl ⊢
 obtain ⟨t, rfl⟩ : ∃ t : Nat, c0 = (t : Int) := ⟨c0.toNat, by omega⟩
 have h := zaM (B := fun s => qr_B0 n s.1.1 s.1.2 s.2.1.1 s.2.1.2 s.2.2.1.1 s.2.2.1.2 s.2.2.2) (mk := fun (i : Nat) acc bad xs b => (((t : Int), (i : Int)), ((recs, bad), ((xs, b), acc)))) (fin := fun r => ((recs, r.2.1), (r.2.2, r.1))) (one := textV recs) (t := t) (M := 4294967296) (fun bad xs b => zmM recs bad xs b)
  (fun i acc bad xs b hi ha hx => by
   show qr_B0 n (t : Int) (i : Int) recs bad xs b acc = _
   unfold qr_B0
   rw [decide_eq_true (by omega), cond_true, zox n recs bad xs b hx (by omega), Option.bind_some, zk (by omega), zo (by simp; omega), cond_true]
   cases bad <;> rfl)
  (fun acc bad xs b => by
   show qr_B0 n (t : Int) (t : Int) recs bad xs b acc = _
   unfold qr_B0
   rw [decide_eq_false (by omega), cond_false]) t 0 n [] bad1 xs1 b1 (by omega) (by omega) rfl (by omega)
 rw [show qr_W0 n (((t : Int), 0), ((recs, bad1), ((xs1, b1), []))) = _ from h, Option.bind_some]
 rfl
noncomputable def recV (recs : Int) (bad : Bool) (xs : List Int) (b : Bool) : List TyD × Bool × List Int × Bool := clistV (oneV recs) 6 bad xs b
theorem znC (recs : Int) (bad : Bool) (xs : List Int) (b : Bool) : (recV recs bad xs b).2.2.1.length ≤ xs.length := zal (zaz recs) 6 bad xs b
theorem zpf (n : Nat) (recs : Int) (bad : Bool) (xs : List Int) (b : Bool) (hx : xs.length ≤ 4294967296) (hn : 2000 ≤ n) : qax n recs bad xs b = some ((recV recs bad xs b).1, ((recs, (recV recs bad xs b).2.1), (recV recs bad xs b).2.2)) := by
 unfold qax recV
 rw [zbt n 6 recs bad xs b (by omega) hx hn, Option.bind_some]
theorem qk_eq (n : Nat) (most recs : Int) (bad : Bool) (xs : List Int) (b : Bool) (hm : 0 ≤ most ∧ most ≤ 1000) (hx : xs.length ≤ 4294967296) (hn : 2000 ≤ n) :
  qk n most recs bad xs b = some ((clistV (recV recs) most bad xs b).1, ((recs, (clistV (recV recs) most bad xs b).2.1), (clistV (recV recs) most bad xs b).2.2)) := by
 unfold qk
 rw [zaK n most recs bad xs b hm hx (by omega), Option.bind_some]
 unfold clistV
 have hc := zae most hm.1 bad xs b
 have hl := zZ most bad xs b
 generalize countV most bad xs b = c at hc hl ⊢
 obtain ⟨c0, bad1, xs1, b1⟩ := c
 simp only at hc hl ⊢
 obtain ⟨t, rfl⟩ : ∃ t : Nat, c0 = (t : Int) := ⟨c0.toNat, by omega⟩
 have h := zaM (B := fun s => qk_B0 n s.1.1 s.1.2 s.2.1.1 s.2.1.2 s.2.2.1.1 s.2.2.1.2 s.2.2.2) (mk := fun (i : Nat) acc bad xs b => (((t : Int), (i : Int)), ((recs, bad), ((xs, b), acc)))) (fin := fun r => ((recs, r.2.1), (r.2.2, r.1))) (one := recV recs) (t := t) (M := 4294967296) (fun bad xs b => znC recs bad xs b)
  (fun i acc bad xs b hi ha hx => by
   show qk_B0 n (t : Int) (i : Int) recs bad xs b acc = _
   unfold qk_B0
   rw [decide_eq_true (by omega), cond_true, zpf n recs bad xs b hx (by omega), Option.bind_some, zk (by omega), zo (by simp; omega), cond_true]
   cases bad <;> rfl)
  (fun acc bad xs b => by
   show qk_B0 n (t : Int) (t : Int) recs bad xs b acc = _
   unfold qk_B0
   rw [decide_eq_false (by omega), cond_false]) t 0 n [] bad1 xs1 b1 (by omega) (by omega) rfl (by omega)
 rw [show qk_W0 n (((t : Int), 0), ((recs, bad1), ((xs1, b1), []))) = _ from h, Option.bind_some]
 rfl
end Sx
end
section
/- A module's bytes are bytes. Which parts there are. -/
set_option linter.unusedVariables false
set_option linter.unusedSimpArgs false
namespace Sx
open Go Go.Ab
def Bytes (l : List Int) : Prop := ∀ x ∈ l, 0 ≤ x ∧ x ≤ 255
theorem Bytes.app {a b : List Int} (h : Bytes a) (h' : Bytes b) : Bytes (a ++ b) := fun x hx => (List.mem_append.1 hx).elim (h x) (h' x)
theorem Bytes.flat {α : Type} {f : α → List Int} {l : List α} (h : ∀ a ∈ l, Bytes (f a)) : Bytes (l.flatMap f) := fun x hx => by
 obtain ⟨a, ha, hx⟩ := List.mem_flatMap.1 hx
 exact h a ha x hx
theorem Bytes.var {v : Nat} (h : v < 18446744073709551616) : Bytes (varN v) := zew h
theorem Bytes.list {α : Type} {f : α → List Int} {l : List α} (hl : l.length < 18446744073709551616) (h : ∀ a ∈ l, Bytes (f a)) : Bytes (listV f l) := (Bytes.var hl).app (Bytes.flat h)
theorem Bytes.typ {t : TyD} (h : okT t) : Bytes (typV t) := by
 have h1 := h.1; have h2 := h.2
 unfold okI at h1 h2
 exact (Bytes.var (by unfold pos; omega)).app (Bytes.var (by unfold pos; omega))
theorem Bytes.types {l : List TyD} (hl : l.length < 18446744073709551616) (h : okTs l) : Bytes (typesV l) := (Bytes.var hl).app (Bytes.flat fun t ht => Bytes.typ (h t ht))
theorem Bytes.put (i : InD) : Bytes (putV i) := by
 intro x hx
 unfold putV at hx
 split at hx
 ·cases hx
 ·rename_i hb
  have hb := Bool.not_eq_true _ ▸ hb
  unfold badI at hb
  have hb := of_decide_eq_false hb
  have ha := zff (op := i.1) (by omega)
  rcases List.mem_cons.1 hx with rfl | hx
  ·omega
  ·rcases List.mem_append.1 hx with hx | hx
   ·split at hx
    ·exact zew (by omega) x hx
    ·cases hx
   ·split at hx
    ·exact zew (by omega) x hx
    ·cases hx
theorem Bytes.fix (k v : Nat) : Bytes (fixN k v) := by
 intro x hx
 unfold fixN at hx
 obtain ⟨i, _, rfl⟩ := List.mem_map.1 hx
 omega
theorem Bytes.text (s : ByteArray) : Bytes (bytesInts s) := by
 intro x hx
 unfold bytesInts at hx
 obtain ⟨c, _, rfl⟩ := List.mem_map.1 hx
 have := c.toNat_lt
 omega
theorem zcx {m : ModD} (ho : OkM m) (hf : fitsV m = true) : Bytes (encV m) := by
 have l1 := (zct 200 m ho hf (by omega)).2
 have l2 := (zbp 200 m ho hf (by omega)).2
 have l3 := (zcA 200 m ho hf (by omega)).2
 have l4 := (zcC 200 m ho hf (by omega)).2
 have l5 := (zfl 200 m hf (by omega)).2
 have hf' := hf
 unfold fitsV at hf'
 simp only [Bool.and_eq_true, decide_eq_true_eq] at hf'
 obtain ⟨h1, h2, h3, h4, h5, h6, h7, h8, h9, h10⟩ := hf'
 have b1 : Bytes (listV typesV m.recs) := Bytes.list (by omega) fun l hl => Bytes.types (by have := zaE (List.all_eq_true.1 h2 l hl); omega) (ho.recs l hl)
 have b2 : Bytes (listV fncV m.funcs) := Bytes.list (by omega) fun f hf => by
  have hl := zdr (List.all_eq_true.1 h5 f hf)
  have ho := ho.funcs f hf
  unfold fncV
  exact ((((Bytes.types (by omega) ho.1).app (Bytes.typ ho.2.1)).app (Bytes.types (by omega) ho.2.2)).app (Bytes.var (by omega))).app (Bytes.flat fun i _ => Bytes.put i)
 have b3 : Bytes (listV impV m.imps) := Bytes.list (by omega) fun f hf => by
  have hl := zhB (List.all_eq_true.1 h7 f hf)
  have ho := ho.imps f hf
  unfold impV
  exact (Bytes.types (by omega) ho.1).app (Bytes.typ ho.2)
 have b4 : Bytes (listV (fun v : Int => fixN 8 v.toNat) m.ints) := Bytes.list (by omega) fun v _ => Bytes.fix 8 _
 have b5 : Bytes (listV txtV m.texts) := Bytes.list (by omega) fun t ht => (Bytes.var (by have := of_decide_eq_true (List.all_eq_true.1 h10 t ht); omega)).app (Bytes.text t)
 unfold encV joinV
 refine Bytes.list (by simp) fun p hp => ?_
 have hp : p = listV typesV m.recs ∨ p = listV fncV m.funcs ∨ p = listV impV m.imps ∨ p = listV (fun v : Int => fixN 8 v.toNat) m.ints ∨ p = listV txtV m.texts := by simpa using hp
 rcases hp with rfl | rfl | rfl | rfl | rfl
 ·exact (Bytes.var (by omega)).app b1
 ·exact (Bytes.var (by omega)).app b2
 ·exact (Bytes.var (by omega)).app b3
 ·exact (Bytes.var (by omega)).app b4
 ·exact (Bytes.var (by omega)).app b5
theorem qcd_eq (n : Nat) (most : Int) (xs : List Int) (b : Bool) (hm : 0 ≤ most ∧ most ≤ 4294967296) (hx : xs.length ≤ 4294967296) (hn : 20 ≤ n) :
  qcd n most xs b = some ((min (varV xs b).1 most, !(varV xs b).2.2 && decide ((varV xs b).1 ≤ most)), (varV xs b).2) := by
 unfold qcd
 have hr := zaa xs b
 rw [zev n xs b hx hn]
 simp only [qbc, Option.bind_some]
 have hmax : maxI most 0 = most := by
  unfold maxI
  first | (rw [decide_eq_false (by omega)]; rfl) | (rw [decide_eq_true (by omega)]; rfl)
 rw [hmax, zB hm.1 (by omega)]
 have hmin : minI (varV xs b).1 most = min (varV xs b).1 most := by
  unfold minI
  by_cases h : most < (varV xs b).1
  ·rw [decide_eq_true h]; simp only [cond_true]; omega
  ·rw [decide_eq_false h]; simp only [cond_false]; omega
 rw [hmin, zaT (by omega) (by omega)]
 generalize varV xs b = r at *
 obtain ⟨v, xs1, b1⟩ := r
 cases b1 with
 | true => rfl
 | false => simp only [Bool.not_false, cond_true, decide_eq_true (show most ≥ 0 from hm.1), Bool.true_and]
end Sx
end
section
/- Decode, of whatever bytes: nothing, or the module whose bytes they are. -/
set_option linter.unusedVariables false
set_option linter.unusedSimpArgs false
namespace Sx
open Go Go.Ab
def emptyM : ModD := ⟨[], [], [], [], []⟩
theorem zoS (recs : Int) (xs : List Int) (b : Bool) : okT (getV recs xs b).1 := by
 unfold getV
 simp only
 have h1 := zaa xs b
 have h2 := zaa (varV xs b).2.1 (varV xs b).2.2
 split
 ·exact ⟨by unfold okI; simp, by unfold okI; simp⟩
 ·rename_i h
  have e1 : (varV xs b).1 ≤ 8 := Int.not_lt.mp fun h' => h (.inr (.inl h'))
  have e2 : (varV (varV xs b).2.1 (varV xs b).2.2).1 ≤ 255 := Int.not_lt.mp fun h' => h (.inr (.inr (.inl h')))
  exact ⟨by unfold okI; simp only; omega, by unfold okI; simp only; omega⟩
theorem zbE {A : Type} {one : Bool → List Int → Bool → A × Bool × List Int × Bool} {p : A → Prop} (h1 : ∀ bad xs b, p (one bad xs b).1) (most : Int) (bad : Bool) (xs : List Int) (b : Bool) : ∀ x ∈ (clistV one most bad xs b).1, p x :=
 zhL h1 _ _ _ _ _ (fun x hx => by cases hx)
theorem zjG (recs : Int) (bad : Bool) (xs : List Int) (b : Bool) : okT (oneV recs bad xs b).1 := zoS recs xs b
theorem zfh (recs most : Int) (bad : Bool) (xs : List Int) (b : Bool) : okTs (clistV (oneV recs) most bad xs b).1 := zbE (p := okT) (zjG recs) most bad xs b
theorem zoL (recs : Int) (bad : Bool) (xs : List Int) (b : Bool) : okTs (recV recs bad xs b).1 := zfh recs 6 bad xs b
theorem znF (recs : Int) (bad : Bool) (xs : List Int) (b : Bool) : okTs (funcV recs bad xs b).1.1 ∧ okT ((funcV recs bad xs b).1.2.1, (funcV recs bad xs b).1.2.2.1) ∧ okTs (funcV recs bad xs b).1.2.2.2.1 := by
 unfold funcV
 simp only
 exact ⟨zfh _ _ _ _ _, (show okT (oneV recs (clistV (oneV recs) 4 bad xs b).2.1 (clistV (oneV recs) 4 bad xs b).2.2.1 (clistV (oneV recs) 4 bad xs b).2.2.2).1 from zjG recs _ _ _), zfh _ _ _ _ _⟩
theorem zoj (recs : Int) (bad : Bool) (xs : List Int) (b : Bool) : okTs (hostV recs bad xs b).1.1 ∧ okT ((hostV recs bad xs b).1.2.1, (hostV recs bad xs b).1.2.2) := by
 unfold hostV
 simp only
 exact ⟨zfh _ _ _ _ _, (show okT (oneV recs (clistV (oneV recs) 4 bad xs b).2.1 (clistV (oneV recs) 4 bad xs b).2.2.1 (clistV (oneV recs) 4 bad xs b).2.2.2).1 from zjG recs _ _ _)⟩
noncomputable def readV (p0 p1 p2 p3 p4 : List Int) : ModD :=
 let r := (clistV (recV (min (varV p0 false).1 8)) 8 false p0 false).1
 ⟨r, (clistV (funcV r.length) 8 false p1 false).1, (clistV (hostV r.length) 8 false p2 false).1, (clistV (u64V r.length) 16 false p3 false).1, (clistV (textV r.length) 16 false p4 false).1⟩
theorem znz (p0 p1 p2 p3 p4 : List Int) : OkM (readV p0 p1 p2 p3 p4) := by
 unfold readV
 simp only
 exact ⟨zbE (p := okTs) (zoL _) _ _ _ _, zbE (p := fun f : FnD => okTs f.1 ∧ okT (f.2.1, f.2.2.1) ∧ okTs f.2.2.2.1) (znF _) _ _ _ _, zbE (p := fun f : ImD => okTs f.1 ∧ okT (f.2.1, f.2.2)) (zoj _) _ _ _ _,
  zbE (p := fun v : Int => 0 ≤ v ∧ v ≤ 18446744073709551615) (fun bad xs b => zlN _) _ _ _ _⟩
theorem newR (n : Nat) (p : List Int) (h : p.length ≤ 1000000) : qbb n p = some (p, false) := by
 unfold qbb
 rw [zo (by omega), cond_true]
theorem zjN (n : Nat) (t0 p0 p1 p2 p3 p4 : List Int) (hs : qcc n t0 5 = some ([p0, p1, p2, p3, p4], 0)) (h0 : p0.length ≤ 1000000) (h1 : p1.length ≤ 1000000) (h2 : p2.length ≤ 1000000) (h3 : p3.length ≤ 1000000) (h4 : p4.length ≤ 1000000) (hn : 6000 ≤ n) :
  qbf n t0 = some (if fitsV (readV p0 p1 p2 p3 p4) = true ∧ eqS (intsBytes (encV (readV p0 p1 p2 p3 p4))) (intsBytes t0) = true then (mtup (readV p0 p1 p2 p3 p4), 0) else (mtup emptyM, 2)) := by
 have ho := znz p0 p1 p2 p3 p4
 have hr := zaa p0 false
 unfold qbf
 rw [hs, Option.bind_some]
 simp only [qaw, qx, qad, qac, qaf]
 rw [show ((0 : Int) != 0) = false from rfl, cond_false, show (lenI [p0, p1, p2, p3, p4] != 5) = false from rfl, cond_false]
 rw [show getI [p0, p1, p2, p3, p4] 0 = some p0 from rfl, Option.bind_some, newR n p0 h0, Option.bind_some, Option.bind_some]
 simp only
 rw [show getI [p0, p1, p2, p3, p4] 0 = some p0 from rfl, Option.bind_some, newR n p0 h0, Option.bind_some, zev n p0 false (by omega) (by omega), Option.bind_some]
 have hmin : cvtI .i64 (minI (varV p0 false).1 8) = min (varV p0 false).1 8 := by
  have : minI (varV p0 false).1 8 = min (varV p0 false).1 8 := by
   unfold minI
   by_cases h : 8 < (varV p0 false).1
   ·rw [decide_eq_true h]; simp only [cond_true]; omega
   ·rw [decide_eq_false h]; simp only [cond_false]; omega
  rw [this, zaT (by omega) (by omega)]
 rw [hmin, qk_eq n 8 _ false p0 false (by omega) (by omega) (by omega), Option.bind_some]
 simp only
 rw [show getI [p0, p1, p2, p3, p4] 1 = some p1 from rfl, Option.bind_some, newR n p1 h1, Option.bind_some, Option.bind_some]
 simp only
 rw [zd, qp_eq n 8 _ false p1 false (by omega) (by omega) (by omega), Option.bind_some]
 simp only
 rw [show getI [p0, p1, p2, p3, p4] 2 = some p2 from rfl, Option.bind_some, newR n p2 h2, Option.bind_some, Option.bind_some]
 simp only
 rw [zd, qd_eq n 8 _ false p2 false (by omega) (by omega) (by omega), Option.bind_some]
 simp only
 rw [show getI [p0, p1, p2, p3, p4] 3 = some p3 from rfl, Option.bind_some, newR n p3 h3, Option.bind_some, Option.bind_some]
 simp only
 rw [zd, qu_eq n 16 _ false p3 false (by omega) (by omega) (by omega), Option.bind_some]
 simp only
 rw [show getI [p0, p1, p2, p3, p4] 4 = some p4 from rfl, Option.bind_some, newR n p4 h4, Option.bind_some, Option.bind_some]
 simp only
 rw [qr_eq n 16 _ false p4 false (by omega) (by omega) (by omega), Option.bind_some]
 have he := zfq n (readV p0 p1 p2 p3 p4) ho (by omega)
 show (qbe n (readV p0 p1 p2 p3 p4).recs (readV p0 p1 p2 p3 p4).funcs (readV p0 p1 p2 p3 p4).imps (readV p0 p1 p2 p3 p4).ints (readV p0 p1 p2 p3 p4).texts).bind (fun r437 => bif r437.2 != 0 then some (mtup emptyM, (2 : Int)) else bif !(eqS (intsBytes r437.1) (intsBytes t0)) then some (mtup emptyM, 2) else some (mtup (readV p0 p1 p2 p3 p4), 0)) = _
 rw [he, Option.bind_some]
 generalize readV p0 p1 p2 p3 p4 = m
 cases hf : fitsV m with
 | false => rw [if_neg (by simp), if_neg (by simp)]; rfl
 | true =>
  rw [if_pos rfl]
  show (bif !(eqS (intsBytes (encV m)) (intsBytes t0)) then some (mtup emptyM, (2 : Int)) else some (mtup m, 0)) = _
  cases eqS (intsBytes (encV m)) (intsBytes t0) <;> rfl
end Sx
end
section
/- What any bytes are. -/
set_option linter.unusedVariables false
set_option linter.unusedSimpArgs false
namespace Sx
open Go Go.Ab
theorem qcf_eq (n : Nat) (a b : List Int) (ha : a.length ≤ 1000000) (hn : a.length < n) : qcf n a b = some (eqL eqN a b) := by
 unfold qcf eqL
 rw [lenNe]
 by_cases hl : a.length = b.length
 ·rw [decide_eq_true hl, Bool.not_true, cond_false, Bool.true_and]
  have h := zbe (B := fun s => qcf_B0 n s.1 s.2.1 s.2.2) (mk := fun (i : Nat) => (a, (b, (i : Int)))) (p := eqN) (found := fun i x y => Sum.inl false) (e := Sum.inr ()) hl (fun i x y hx hy => ?_) ?_ n (by omega)
  ·rcases h with ⟨h1, h2⟩ | ⟨h1, i, x, y, h2⟩
   ·rw [show qcf_W0 n (a, (b, 0)) = _ from h2, h1]; rfl
   ·rw [show qcf_W0 n (a, (b, 0)) = _ from h2, h1]; rfl
  ·have hi := zj hx
   show qcf_B0 n a b (i : Int) = _
   unfold qcf_B0
   rw [zd, decide_eq_true (by omega), cond_true, zn, hx, Option.bind_some, zn, hy, Option.bind_some, zk (by omega)]
   show (bif !eqN x y then _ else _) = _
   cases eqN x y <;> rfl
  ·show qcf_B0 n a b (a.length : Int) = _
   unfold qcf_B0
   rw [zd, decide_eq_false (by omega), cond_false]
 ·rw [decide_eq_false hl]; rfl
end Sx
end
section
/- A module's bytes are no beginning of another one's. -/
set_option linter.unusedVariables false
set_option linter.unusedSimpArgs false
namespace Sx
open Go Go.Ab
theorem zhR (m : ModD) (ho : OkM m) (hf : fitsV m = true) : 1 ≤ (encV m).length ∧ (encV m).length ≤ 100000 := by
 have l1 := (zct 200 m ho hf (by omega)).2
 have l2 := (zbp 200 m ho hf (by omega)).2
 have l3 := (zcA 200 m ho hf (by omega)).2
 have l4 := (zcC 200 m ho hf (by omega)).2
 have l5 := (zfl 200 m hf (by omega)).2
 unfold encV joinV
 generalize listV typesV m.recs = a at *
 generalize listV fncV m.funcs = b at *
 generalize listV impV m.imps = c at *
 generalize listV (fun v : Int => fixN 8 v.toNat) m.ints = d at *
 generalize listV txtV m.texts = e at *
 unfold listV
 have v0 := zg (0 + 1 + 1 + 1 + 1 + 1)
 have v1 := zg a.length
 have v2 := zg b.length
 have v3 := zg c.length
 have v4 := zg d.length
 have v5 := zg e.length
 simp only [List.length_cons, List.length_nil, List.flatMap_cons, List.flatMap_nil, List.length_append]
 omega
end Sx
end
section
/- What is written is read again: numbers. (Under way.) -/
set_option linter.unusedVariables false
set_option linter.unusedSimpArgs false
namespace Sx
open Go Go.Ab
theorem andNot128 (x : Nat) (hx : x < 256) : cvtI .u64 (andNotI .u8 (x : Int) 128) = ((x % 128 : Nat) : Int) := by
 have h : ∀ m : Nat, m < 256 → andNotI .u8 (m : Int) 128 = ((m % 128 : Nat) : Int) := by decide +kernel
 rw [h x hx, zB (by omega) (by omega)]
theorem u64wrap (n : Int) : IntKind.u64.wrap n = n % 18446744073709551616 := by simp [IntKind.wrap, IntKind.bits, IntKind.signed]
theorem zmw (a b : Nat) (ha : a < 18446744073709551616) (hb : b < 18446744073709551616) : orI .u64 (a : Int) (b : Int) = ((a ||| b : Nat) : Int) := by
 unfold orI
 rw [u64wrap]
 have : (BitVec.ofInt IntKind.u64.bits (a : Int) ||| BitVec.ofInt IntKind.u64.bits (b : Int)).toNat = a ||| b := by
  rw [BitVec.toNat_or]
  show (BitVec.ofInt 64 (a : Int)).toNat ||| (BitVec.ofInt 64 (b : Int)).toNat = _
  rw [BitVec.ofInt_natCast, BitVec.ofInt_natCast, BitVec.toNat_ofNat, BitVec.toNat_ofNat, Nat.mod_eq_of_lt ha, Nat.mod_eq_of_lt hb]
 rw [this]
 have h : a ||| b < 18446744073709551616 := Nat.or_lt_two_pow (n := 64) ha hb
 omega
theorem zoF (a k : Nat) (hk : k ≤ 9) (h : a * 128 ^ k < 18446744073709551616) : shlI .u64 (a : Int) ((7 * k : Nat) : Int) = ((a * 128 ^ k : Nat) : Int) := by
 unfold shlI
 rw [u64wrap]
 have h1 : min ((7 * k : Nat) : Int).toNat IntKind.u64.bits = 7 * k := by
  show min ((7 * k : Nat) : Int).toNat 64 = 7 * k
  rw [Int.toNat_natCast]; omega
 rw [h1]
 have h2 : (2 : Int) ^ (7 * k) = ((128 ^ k : Nat) : Int) := by
  rw [Int.pow_mul]
  simp
 rw [h2]
 have h3 : (a : Int) * ((128 ^ k : Nat) : Int) = ((a * 128 ^ k : Nat) : Int) := by simp
 rw [h3]
 omega
theorem ziv (v x k : Nat) (hk : k ≤ 9) (hx : x < 256) (hv : v < 128 ^ k) (h : x % 128 * 128 ^ k + v < 18446744073709551616) : vstep (v : Int) (x : Int) k = ((x % 128 * 128 ^ k + v : Nat) : Int) := by
 unfold vstep
 rw [andNot128 x hx, zoF (x % 128) k hk (by omega), zmw v _ (by omega) (by omega)]
 have e : (128 : Nat) ^ k = 2 ^ (7 * k) := by rw [Nat.pow_mul]
 rw [e] at hv ⊢
 have := Nat.shiftLeft_add_eq_or_of_lt hv (x % 128)
 rw [Nat.shiftLeft_eq] at this
 rw [this, Nat.or_comm]
theorem zjd (V : Nat) (hV : V < 18446744073709551616) (rest : List Int) : ∀ (f i : Nat), f + i = 10 → (0 < i → 1 ≤ V / 128 ^ i) → varR (varF f (V / 128 ^ i) ++ rest) i ((V % 128 ^ i : Nat) : Int) = ((V : Int), rest, false)
 | 0, i, hi, h1 => by
  obtain rfl : i = 10 := by omega
  have := h1 (by omega)
  have : V / 128 ^ 10 = 0 := Nat.div_eq_of_lt (by omega)
  omega
 | f + 1, i, hi, h1 => by
  have hp : 0 < 128 ^ i := Nat.pow_pos (by omega)
  have hdm := Nat.div_add_mod V (128 ^ i)
  have hml := Nat.mod_lt V hp
  have h9 : i = 9 → V / 128 ^ i ≤ 1 := fun h => by
   subst h
   have : V / 128 ^ 9 < 2 := (Nat.div_lt_iff_lt_mul (by omega)).2 (by omega)
   omega
  have hmp := @Nat.mod_pow_succ V 128 i
  have hdd : V / 128 ^ i / 128 = V / 128 ^ (i + 1) := by rw [Nat.div_div_eq_div_mul, Nat.pow_succ]
  generalize hw : V / 128 ^ i = w at *
  unfold varF
  by_cases hlt : w < 128
  ·rw [if_pos hlt]
   show varR ((w : Int) :: rest) i _ = _
   unfold varR
   rw [if_neg (by
    rintro (⟨h, h'⟩ | ⟨h, h'⟩)
    ·have := h9 h; omega
    ·have := h1 h; omega), if_pos (by omega)]
   have hvv : w % 128 * 128 ^ i + V % 128 ^ i = V := by
    rw [Nat.mod_eq_of_lt hlt, Nat.mul_comm]; exact hdm
   rw [ziv _ w i (by omega) (by omega) hml (by omega), hvv]
  ·rw [if_neg hlt]
   show varR (((128 + w % 128 : Nat) : Int) :: (varF f (w / 128) ++ rest)) i _ = _
   unfold varR
   have hi9 : i ≠ 9 := fun h => by have := h9 h; omega
   rw [if_neg (by
    rintro (⟨h, h'⟩ | ⟨h, h'⟩)
    ·exact hi9 h
    ·omega), if_neg (by omega)]
   have hx : (128 + w % 128) % 128 = w % 128 := by omega
   have hvv : (128 + w % 128) % 128 * 128 ^ i + V % 128 ^ i = V % 128 ^ (i + 1) := by
    rw [hx, hmp, Nat.mul_comm, Nat.add_comm]
   have hle : V % 128 ^ (i + 1) ≤ V := Nat.mod_le _ _
   rw [ziv _ (128 + w % 128) i (by omega) (by omega) hml (by omega), hvv, hdd]
   exact zjd V hV rest f (i + 1) (by omega) (fun _ => by rw [← hdd]; omega)
theorem zaP (V : Nat) (hV : V < 18446744073709551616) (rest : List Int) : varV (varN V ++ rest) false = ((V : Int), rest, false) := by
 have := zjd V hV rest 10 0 (by omega) (by omega)
 simp only [Nat.pow_zero, Nat.div_one, Nat.mod_one] at this
 unfold varV varN
 rw [if_neg (by simp)]
 exact this
theorem zkB {recs : Int} {t : TyD} (h : goodV recs t = true) (hr : recs ≤ 8) : 0 ≤ t.1 ∧ t.1 ≤ 8 ∧ 0 ≤ t.2 ∧ t.2 ≤ 255 := by
 unfold goodV at h
 split at h
 ·have := eq_of_beq h
  omega
 ·split at h
  ·have := of_decide_eq_true h
   omega
  ·split at h
   ·have := of_decide_eq_true h
    omega
   ·cases h
theorem znd (recs : Int) (t : TyD) (rest : List Int) (hr : recs ≤ 8) (h : goodV recs t = true) : getV recs (typV t ++ rest) false = (t, true, rest, false) := by
 obtain ⟨h1, h2, h3, h4⟩ := zkB h hr
 unfold getV typV
 rw [List.append_assoc, zaP _ (by unfold pos; omega)]
 simp only
 rw [zaP _ (by unfold pos; omega)]
 have e1 : ((pos t.1 : Nat) : Int) = t.1 := by unfold pos; omega
 have e2 : ((pos t.2 : Nat) : Int) = t.2 := by unfold pos; omega
 rw [e1, e2, if_neg (by
  rintro (h' | h' | h' | h')
  ·cases h'
  ·omega
  ·omega
  ·rw [h] at h'; cases h')]
theorem zfI (recs : Int) (t : TyD) (rest : List Int) (hr : recs ≤ 8) (h : goodV recs t = true) : oneV recs false (typV t ++ rest) false = (t, false, rest, false) := by
 unfold oneV
 rw [znd recs t rest hr h]
 rfl
theorem zfO (most : Int) (k : Nat) (rest : List Int) (hm : (k : Int) ≤ most) (hk : k < 18446744073709551616) : countV most false (varN k ++ rest) false = ((k : Int), false, rest, false) := by
 unfold countV
 rw [zaP k hk, if_neg (by
  rintro (h | h)
  ·cases h
  ·simp only at h; omega)]
theorem zgo {A : Type} {one : Bool → List Int → Bool → A × Bool × List Int × Bool} {f : A → List Int} : ∀ (l acc : List A) (rest : List Int), (∀ x ∈ l, ∀ rest, one false (f x ++ rest) false = (x, false, rest, false)) → rlistV one l.length acc false (l.flatMap f ++ rest) false = (acc ++ l, false, rest, false)
 | [], acc, rest, _ => by simp [rlistV]
 | x :: l, acc, rest, h => by
  rw [List.length_cons]
  unfold rlistV
  rw [if_neg (by simp), List.flatMap_cons, List.append_assoc, h x (List.mem_cons_self ..)]
  simp only
  rw [zgo l (acc ++ [x]) rest fun y hy => h y (List.mem_cons_of_mem _ hy), List.append_assoc]
  rfl
theorem zap {A : Type} {one : Bool → List Int → Bool → A × Bool × List Int × Bool} {f : A → List Int} (most : Int) (l : List A) (rest : List Int) (hm : (l.length : Int) ≤ most) (hk : l.length < 18446744073709551616) (h : ∀ x ∈ l, ∀ rest, one false (f x ++ rest) false = (x, false, rest, false)) :
  clistV one most false (listV f l ++ rest) false = (l, false, rest, false) := by
 unfold clistV listV
 rw [List.append_assoc, zfO most l.length _ hm hk]
 simp only
 rw [Int.toNat_natCast, zgo l [] rest h]
 rfl
theorem zkI (op : Int) (h : 0 ≤ op ∧ op < 42) (rest : List Int) : fixedV 1 (op :: rest) false = (op, rest, false) := by
 obtain ⟨m, rfl⟩ : ∃ m : Nat, op = (m : Int) := ⟨op.toNat, by omega⟩
 have ht : takeV (minI (maxI 1 0) 8) ((m : Int) :: rest) false = ([(m : Int)], rest, false) := by
  unfold takeV
  rw [show minI (maxI 1 0) 8 = 1 from rfl, if_neg (by simp; omega)]
  rfl
 unfold fixedV
 rw [ht]
 have hf : ∀ m : Nat, m < 42 → fixV [(m : Int)] = (m : Int) := by decide +kernel
 rw [hf m (by omega)]
theorem zlW (i : InD) (rest : List Int) (h : badI i = false) : instV (putV i ++ rest) false = (i, true, rest, false) := by
 have hb := h
 unfold badI at hb
 have hb := of_decide_eq_false hb
 have ha := zff (op := i.1) (by omega)
 have hc := zbO i.1
 obtain ⟨op, x, y⟩ := i
 simp only at hb ha hc
 have hput : putV (op, x, y) ++ rest = op :: ((if argsV op > 0 then varN x.toNat else []) ++ (if argsV op > 1 then varN y.toNat else []) ++ rest) := by
  unfold putV
  rw [h, if_neg (by decide)]
  rfl
 unfold instV
 rw [hput, zkI op ha]
 simp only
 rw [zaT (a := op) (by omega) (by omega)]
 rw [if_neg (by rintro (h' | h') <;> first | (cases h'; done) | omega)]
 by_cases e0 : argsV op = 0
 ·rw [if_pos e0, show (if argsV op > 0 then varN x.toNat else []) = [] from if_neg (by omega), show (if argsV op > 1 then varN y.toNat else []) = [] from if_neg (by omega)]
  have hx : x = 0 := by omega
  have hy : y = 0 := by omega
  rw [hx, hy]; rfl
 ·have ex : ((x.toNat : Nat) : Int) = x := by omega
  have ey : ((y.toNat : Nat) : Int) = y := by omega
  rw [if_neg e0, show (if argsV op > 0 then varN x.toNat else []) = varN x.toNat from if_pos (by omega), List.append_assoc, zaP x.toNat (by omega)]
  simp only
  rw [if_neg (by rintro (h' | h') <;> first | (cases h'; done) | omega), ex]
  by_cases e1 : argsV op = 1
  ·rw [if_pos e1, show (if argsV op > 1 then varN y.toNat else []) = [] from if_neg (by omega)]
   have hy : y = 0 := by omega
   rw [hy]; rfl
  ·rw [if_neg e1, show (if argsV op > 1 then varN y.toNat else []) = varN y.toNat from if_pos (by omega), zaP y.toNat (by omega)]
   simp only
   rw [if_neg (by rintro (h' | h') <;> first | (cases h'; done) | omega), ey]
end Sx
end
section
/- What is written is read again: functions, imports, numbers, texts, parts; the law. -/
set_option linter.unusedVariables false
set_option linter.unusedSimpArgs false
namespace Sx
open Go Go.Ab
theorem zkL (recs : Int) (i : InD) (rest : List Int) (h : badI i = false) : instrV recs false (putV i ++ rest) false = (i, false, rest, false) := by
 unfold instrV
 rw [zlW i rest h]
 rfl
theorem zcy (recs most : Int) (l : List TyD) (rest : List Int) (hr : recs ≤ 8) (hm : most ≤ 1000) (h : goodsV recs most l = true) : clistV (oneV recs) most false (typesV l ++ rest) false = (l, false, rest, false) := by
 unfold goodsV at h
 simp only [Bool.and_eq_true, decide_eq_true_eq] at h
 exact zap (f := typV) most l rest h.1 (by omega) fun x hx rest => zfI recs x rest hr (List.all_eq_true.1 h.2 x hx)
theorem zmX (recs : Int) (l : List TyD) (rest : List Int) (hr : recs ≤ 8) (h : goodsV recs 6 l = true) : recV recs false (typesV l ++ rest) false = (l, false, rest, false) :=
 zcy recs 6 l rest hr (by omega) h
theorem zlZ (recs : Int) (f : FnD) (rest : List Int) (hr : recs ≤ 8) (h : fitF recs f = true) : funcV recs false (fncV f ++ rest) false = (f, false, rest, false) := by
 obtain ⟨a, r0, r1, l, c⟩ := f
 unfold fitF at h
 simp only [Bool.and_eq_true, decide_eq_true_eq, Bool.not_eq_true'] at h
 obtain ⟨h1, h2, h3, h4, h5, h6⟩ := h
 have h3' : goodsV recs 8 l = true := by
  unfold goodsV at h3 ⊢
  simp only [Bool.and_eq_true, decide_eq_true_eq] at h3 ⊢
  exact ⟨by omega, h3.2⟩
 have hc : clistV (instrV recs) 64 false (listV putV c ++ rest) false = (c, false, rest, false) :=
  zap (f := putV) 64 c rest (by omega) (by omega) fun x hx rest => zkL recs x rest (by
   have := List.any_eq_false.1 h6 x hx
   simpa using this)
 have e : fncV (a, r0, r1, l, c) ++ rest = typesV a ++ (typV (r0, r1) ++ (typesV l ++ (listV putV c ++ rest))) := by
  simp only [fncV, listV, List.append_assoc]
 unfold funcV
 rw [e, zcy recs 4 a _ hr (by omega) h1]
 simp only
 rw [zfI recs (r0, r1) _ hr h2]
 simp only
 rw [zcy recs 8 l _ hr (by omega) h3']
 simp only
 rw [hc]
theorem zmf (recs : Int) (f : ImD) (rest : List Int) (hr : recs ≤ 8) (h : fitI recs f = true) : hostV recs false (impV f ++ rest) false = (f, false, rest, false) := by
 obtain ⟨a, r0, r1⟩ := f
 unfold fitI at h
 simp only [Bool.and_eq_true] at h
 unfold hostV impV
 rw [List.append_assoc, zcy recs 4 a _ hr (by omega) h.1]
 simp only
 rw [zfI recs (r0, r1) _ hr h.2]
theorem zmy (k v : Nat) : fixN (k + 1) v = ((v % 256 : Nat) : Int) :: fixN k (v / 256) := by
 unfold fixN
 rw [List.range_succ_eq_map, List.map_cons, List.map_map]
 congr 1
 ·simp
 ·apply List.map_congr_left
  intro i _
  simp only [Function.comp]
  rw [Nat.succ_eq_add_one, Nat.pow_succ, Nat.mul_comm, ← Nat.div_div_eq_div_mul]
theorem zmz (x : Int) (l : List Int) : fixV (x :: l) = orI .u64 (IntKind.u64.wrap (fixV l * 256)) (IntKind.u64.wrap x) := rfl
theorem ziD : ∀ (k v : Nat), k ≤ 8 → fixV (fixN k v) = ((v % 256 ^ k : Nat) : Int)
 | 0, v, _ => by simp [fixN, fixV, Nat.mod_one]
 | k + 1, v, hk => by
  rw [zmy, zmz, ziD k (v / 256) (by omega), u64wrap, u64wrap]
  have hp : 0 < 256 ^ k := Nat.pow_pos (by omega)
  have hle : (256 : Nat) ^ k ≤ 256 ^ 7 := Nat.pow_le_pow_right (by omega) (by omega)
  have hm := Nat.mod_lt (v / 256) hp
  have e1 : (((v / 256 % 256 ^ k : Nat) : Int) * 256) % 18446744073709551616 = ((v / 256 % 256 ^ k * 256 : Nat) : Int) := by omega
  have e2 : (((v % 256 : Nat) : Int)) % 18446744073709551616 = ((v % 256 : Nat) : Int) := by omega
  rw [e1, e2, zmw _ _ (by omega) (by omega)]
  have h := Nat.shiftLeft_add_eq_or_of_lt (show v % 256 < 2 ^ 8 by omega) (v / 256 % 256 ^ k)
  rw [Nat.shiftLeft_eq] at h
  have h256 : (2 : Nat) ^ 8 = 256 := by decide
  rw [h256] at h
  rw [← h, Nat.pow_succ, Nat.mul_comm (256 ^ k) 256, Nat.mod_mul]
  congr 1
  rw [Nat.mul_comm (v / 256 % 256 ^ k) 256]; omega
theorem zez (p rest : List Int) : takeV (p.length : Int) (p ++ rest) false = (p, rest, false) := by
 unfold takeV
 rw [if_neg (by
  rintro (h | h | h)
  ·cases h
  ·omega
  ·rw [List.length_append] at h; omega), Int.toNat_natCast, List.take_left, List.drop_left]
theorem zmE (recs v : Int) (rest : List Int) (h : 0 ≤ v ∧ v ≤ 18446744073709551615) : u64V recs false (fixN 8 v.toNat ++ rest) false = (v, false, rest, false) := by
 have ht := zez (fixN 8 v.toNat) rest
 rw [zbj] at ht
 unfold u64V fixedV
 rw [show minI (maxI 8 0) 8 = ((8 : Nat) : Int) from rfl, ht, ziD 8 _ (by omega)]
 have : ((v.toNat % 256 ^ 8 : Nat) : Int) = v := by
  rw [Nat.mod_eq_of_lt (by omega)]; omega
 rw [this]
theorem zmG (s : ByteArray) : intsBytes (bytesInts s) = s := by
 unfold intsBytes bytesInts
 rw [List.map_map]
 have : (s.data.toList.map ((fun n : Int => UInt8.ofNat n.toNat) ∘ fun b : UInt8 => (b.toNat : Int))) = s.data.toList := by
  have : ((fun n : Int => UInt8.ofNat n.toNat) ∘ fun b : UInt8 => (b.toNat : Int)) = id := by
   funext b
   simp
  rw [this, List.map_id]
 rw [this]
theorem zly (recs : Int) (s : ByteArray) (rest : List Int) (h : s.size ≤ 32) : textV recs false (txtV s ++ rest) false = (s, false, rest, false) := by
 unfold textV txtV
 rw [List.append_assoc, zfO 32 s.size _ (by omega) (by omega)]
 simp only
 rw [← zaC s, zez]
 simp only
 rw [zmG]
theorem zmd (n : Nat) (parts : List (List Int)) (h5 : parts.length = 5) (hx : (joinV parts).length ≤ 1000000) (hn : 6000 ≤ n) : qcc n (joinV parts) 5 = some (parts, 0) := by
 have hl0 : ∀ i, ((parts.drop i).flatMap fun p => varN p.length ++ p).length ≤ 1000000 := by
  intro i
  have e : parts.flatMap (fun p => varN p.length ++ p) = (parts.take i).flatMap (fun p => varN p.length ++ p) ++ (parts.drop i).flatMap fun p => varN p.length ++ p := by rw [← List.flatMap_append, List.take_append_drop]
  unfold joinV listV at hx
  rw [e] at hx
  simp only [List.length_append] at hx
  omega
 unfold qcc qbb
 rw [zo (by omega), cond_true, Option.bind_some]
 dsimp only
 rw [qcd_eq n 5 _ false (by omega) (by omega) (by omega), Option.bind_some]
 have hv : varV (joinV parts) false = ((parts.length : Int), parts.flatMap (fun p => varN p.length ++ p), false) := zaP parts.length (by omega) _
 rw [hv, h5]
 simp only
 rw [show (!(!false && decide (((5 : Nat) : Int) ≤ 5))) = false from rfl, cond_false, show min ((5 : Nat) : Int) 5 = ((5 : Nat) : Int) from rfl]
 obtain ⟨y, hy, hQ⟩ := zaB (B := fun s => qcc_B0 n s.1.1 s.1.2 s.2.1.1 s.2.1.2 s.2.2) (xs := parts) (mk := fun (i : Nat) (a : (List Int × Bool) × List (List Int)) => ((((5 : Nat) : Int), (i : Int)), a))
  (I := fun i a => a = (((parts.drop i).flatMap (fun p => varN p.length ++ p), false), parts.take i))
  (Q := fun y => y = .inr (.inr (([], false), parts)))
  (fun i a x hx hI => by
   have hi := zj hx
   obtain rfl := hI
   left
   have hd : parts.drop i = x :: parts.drop (i + 1) := by
    rw [List.drop_eq_getElem_cons hi]
    rw [List.getElem?_eq_getElem hi] at hx
    rw [Option.some.inj hx]
   have hli := hl0 i
   refine ⟨(((parts.drop (i + 1)).flatMap (fun p => varN p.length ++ p), false), parts.take (i + 1)), ?_, rfl⟩
   show qcc_B0 n ((5 : Nat) : Int) (i : Int) ((parts.drop i).flatMap fun p => varN p.length ++ p) false (parts.take i) = _
   rw [hd] at hli ⊢
   rw [List.flatMap_cons, List.append_assoc] at hli ⊢
   have hlx : (x.length : Int) ≤ ((varN x.length ++ (x ++ (parts.drop (i + 1)).flatMap fun p => varN p.length ++ p)).length : Int) := by
    simp only [List.length_append]; omega
   have hlv : (x ++ (parts.drop (i + 1)).flatMap fun p => varN p.length ++ p).length ≤ 1000000 := by
    simp only [List.length_append] at hli ⊢; omega
   have hx5 : x.length ≤ 1000000 := by
    simp only [List.length_append] at hli; omega
   unfold qcc_B0
   rw [decide_eq_true (by omega), cond_true]
   unfold qau
   simp only [qbc, Option.bind_some, cond_false]
   rw [zd, qcd_eq n _ _ false (by omega) (by omega) (by omega), Option.bind_some, zaP x.length (by omega)]
   simp only
   rw [decide_eq_true hlx]
   simp only [Bool.not_false, Bool.and_self, Bool.not_true, cond_false]
   rw [Int.min_eq_left hlx, zdD n _ _ false (by omega), zez, Option.bind_some]
   have hps : parts.take (i + 1) = parts.take i ++ [x] := by rw [List.take_add_one, hx]; rfl
   rw [zo (by simp; omega), cond_true, zk (by omega), hps]
   rfl)
  (fun a hI => by
   obtain rfl := hI
   refine ⟨.inr (.inr (([], false), parts)), ?_, rfl⟩
   show qcc_B0 n ((5 : Nat) : Int) (parts.length : Int) ((parts.drop parts.length).flatMap fun p => varN p.length ++ p) false (parts.take parts.length) = _
   unfold qcc_B0
   rw [decide_eq_false (by omega), cond_false, List.drop_length, List.take_length]
   rfl)
  5 0 n ((parts.flatMap (fun p => varN p.length ++ p), false), []) (by omega) (by simp) (by omega)
 obtain rfl := hQ
 rw [show qcc_W0 n ((((5 : Nat) : Int), 0), ((parts.flatMap (fun p => varN p.length ++ p), false), [])) = _ from hy, Option.bind_some]
 rfl
theorem zlB (m : ModD) (ho : OkM m) (hf : fitsV m = true) : readV (listV typesV m.recs) (listV fncV m.funcs) (listV impV m.imps) (listV (fun v : Int => fixN 8 v.toNat) m.ints) (listV txtV m.texts) = m := by
 have hf' := hf
 unfold fitsV at hf'
 simp only [Bool.and_eq_true, decide_eq_true_eq] at hf'
 obtain ⟨h1, h2, h3, h4, h5, h6, h7, h8, h9, h10⟩ := hf'
 have hv : min (varV (listV typesV m.recs) false).1 8 = (m.recs.length : Int) := by
  have : varV (listV typesV m.recs) false = ((m.recs.length : Int), m.recs.flatMap typesV, false) := zaP m.recs.length (by omega) _
  rw [this]
  simp only
  omega
 have r1 : (clistV (recV (m.recs.length : Int)) 8 false (listV typesV m.recs) false).1 = m.recs := by
  have := zap (one := recV (m.recs.length : Int)) (f := typesV) 8 m.recs [] (by omega) (by omega) fun x hx rest => zmX _ x rest (by omega) (List.all_eq_true.1 h2 x hx)
  rw [List.append_nil] at this
  rw [this]
 have r2 : (clistV (funcV (m.recs.length : Int)) 8 false (listV fncV m.funcs) false).1 = m.funcs := by
  have := zap (one := funcV (m.recs.length : Int)) (f := fncV) 8 m.funcs [] (by omega) (by omega) fun x hx rest => zlZ _ x rest (by omega) (List.all_eq_true.1 h5 x hx)
  rw [List.append_nil] at this
  rw [this]
 have r3 : (clistV (hostV (m.recs.length : Int)) 8 false (listV impV m.imps) false).1 = m.imps := by
  have := zap (one := hostV (m.recs.length : Int)) (f := impV) 8 m.imps [] (by omega) (by omega) fun x hx rest => zmf _ x rest (by omega) (List.all_eq_true.1 h7 x hx)
  rw [List.append_nil] at this
  rw [this]
 have r4 : (clistV (u64V (m.recs.length : Int)) 16 false (listV (fun v : Int => fixN 8 v.toNat) m.ints) false).1 = m.ints := by
  have := zap (one := u64V (m.recs.length : Int)) (f := fun v : Int => fixN 8 v.toNat) 16 m.ints [] (by omega) (by omega) fun x hx rest => zmE _ x rest (ho.ints x hx)
  rw [List.append_nil] at this
  rw [this]
 have r5 : (clistV (textV (m.recs.length : Int)) 16 false (listV txtV m.texts) false).1 = m.texts := by
  have := zap (one := textV (m.recs.length : Int)) (f := txtV) 16 m.texts [] (by omega) (by omega) fun x hx rest => zly _ x rest (of_decide_eq_true (List.all_eq_true.1 h10 x hx))
  rw [List.append_nil] at this
  rw [this]
 unfold readV
 simp only [hv, r1, r2, r3, r4, r5]
theorem zke (n : Nat) (m : ModD) (ho : OkM m) (hf : fitsV m = true) (hn : 6000 ≤ n) : qbf n (encV m) = some (mtup m, 0) := by
 have l1 := (zct 200 m ho hf (by omega)).2
 have l2 := (zbp 200 m ho hf (by omega)).2
 have l3 := (zcA 200 m ho hf (by omega)).2
 have l4 := (zcC 200 m ho hf (by omega)).2
 have l5 := (zfl 200 m hf (by omega)).2
 have hlen := zhR m ho hf
 have hs : qcc n (encV m) 5 = some ([listV typesV m.recs, listV fncV m.funcs, listV impV m.imps, listV (fun v : Int => fixN 8 v.toNat) m.ints, listV txtV m.texts], 0) :=
  zmd n _ rfl (by have := hlen.2; unfold encV at this; omega) hn
 rw [zjN n (encV m) _ _ _ _ _ hs (by omega) (by omega) (by omega) (by omega) (by omega) hn, zlB m ho hf, if_pos ⟨hf, (znX (zcx ho hf) (zcx ho hf)).trans (decide_eq_true rfl)⟩]
end Sx
end
section
/- The plain laws of the sums: what the printed functions come to. -/
set_option linter.unusedVariables false
set_option linter.unusedSimpArgs false
namespace Sx
open Go Go.Ab
def it {α : Type} (f : α → α) : Nat → α → α
 | 0, x => x
 | k + 1, x => f (it f k x)
def stp (x : BitVec 32) : BitVec 32 := (x >>> 1) ^^^ (bif x.getLsbD 0 then 0xedb88320#32 else 0#32)
def bst (x : BitVec 32) (c : Int) : BitVec 32 := it stp 8 (x ^^^ BitVec.ofInt 32 c)
def crc (x : BitVec 32) (b : List Int) : BitVec 32 := b.foldl bst x
def sumV (b : List Int) : BitVec 32 := ~~~(crc 0xffffffff#32 b)
def IsBytes (b : List Int) : Prop := ∀ x ∈ b, 0 ≤ x ∧ x ≤ 255
theorem zoA (x : BitVec 32) : (W32 x) % 2 = (bif x.getLsbD 0 then 1 else 0) := by
 unfold W32
 have h : x.getLsbD 0 = decide (x.toNat % 2 = 1) := by
  rw [BitVec.getLsbD, Nat.testBit_zero]
 rw [h]
 cases hd : decide (x.toNat % 2 = 1) with
 | true => have := of_decide_eq_true hd; simp only [cond_true]; omega
 | false => have := of_decide_eq_false hd; simp only [cond_false]; omega
theorem zoR (x : BitVec 32) : andI .u32 (W32 x) 1 = (bif x.getLsbD 0 then 1 else 0) := by
 rw [zoE, zbw, show BitVec.ofInt 32 1 = 1#32 from rfl, BitVec.and_one_eq_setWidth_ofBool_getLsbD]
 cases x.getLsbD 0 <;> rfl
theorem zoW (x : BitVec 32) : xorI .u32 (shrI .u32 (W32 x) 1) (mulI .u32 3988292384 (andI .u32 (W32 x) 1)) = W32 (stp x) := by
 rw [zgH, znD, zbw, zoR]
 unfold stp
 cases x.getLsbD 0 <;> rfl
theorem zoM (x : BitVec 32) : (bif (remI (W32 x) 2) == 1 then xorI .u32 (quoI .u32 (W32 x) 2) 3988292384 else quoI .u32 (W32 x) 2) = W32 (stp x) := by
 rw [zdl (zei x).1, zoA, znL]
 unfold stp
 cases x.getLsbD 0 with
 | false =>
  show W32 (x >>> 1) = W32 (x >>> 1 ^^^ 0#32)
  rw [BitVec.xor_zero]
 | true =>
  show xorI .u32 (W32 (x >>> 1)) 3988292384 = _
  rw [zgH, zbw]; rfl
theorem zpl (n : Nat) (x : BitVec 32) (a : List Int) (b c : Int) (hn : 9 ≤ n) : qct_W2 n (W32 x, a, b, c, 0) = some (W32 (it stp 8 x), a, b, c) := by
 refine zce (f := fun i => (W32 (it stp i x), a, b, c, (i : Int))) (k := 8) (fun i hi => ?_) ?_ 8 0 n rfl (by omega)
 ·show qct_B2 n _ _ _ _ _ = _
  dsimp only
  unfold qct_B2
  rw [decide_eq_true (by omega), cond_true, zoW, zcl (by omega) (by omega)]
  rfl
 ·rfl
theorem zih {α β : Type} (f : β → α → β) (x : β) (l : List α) (i : Nat) (c : α) (h : l[i]? = some c) : (l.take (i + 1)).foldl f x = f ((l.take i).foldl f x) c := by
 rw [List.take_add_one, h, List.foldl_append]
 rfl
theorem zpo (n : Nat) (b : List Int) (hb : IsBytes b) (hl : b.length ≤ 4294967296) (hn : b.length + 9 ≤ n) : qct_W0 n (4294967295, (b, ((lenI b), 0))) = some (W32 (crc 0xffffffff#32 b)) := by
 have := zce (B := fun s => qct_B0 n s.1 s.2.1 s.2.2.1 s.2.2.2) (f := fun i => (W32 (crc 0xffffffff#32 (b.take i)), b, lenI b, (i : Int))) (k := b.length) (x := W32 (crc 0xffffffff#32 b)) (fun i hi => ?_) ?_ b.length 0 n (by omega) (by omega)
 ·exact this
 ·show qct_B0 n _ _ _ _ = _
  dsimp only
  unfold qct_B0
  have hg : b[i]? = some b[i] := List.getElem?_eq_getElem hi
  have hc := hb b[i] (List.getElem_mem hi)
  rw [zd, decide_eq_true (by omega), cond_true, zn, hg]
  show ((qct_W2 n (xorI .u32 (W32 (crc 0xffffffff#32 (b.take i))) (cvtI .u32 b[i]), b, (b.length : Int), (i : Int), 0)).bind fun r2 => some (Sum.inl (r2.1, (r2.2.1, (r2.2.2.1, (addI .i64 r2.2.2.2 1)))))) = _
  rw [zkH hc.1 (by omega), zgH, zbw, zpl _ _ _ _ _ (by omega)]
  show some (Sum.inl (W32 (bst (crc 0xffffffff#32 (b.take i)) b[i]), b, (b.length : Int), addI .i64 (i : Int) 1)) = _
  rw [zcl (by omega) (by omega)]
  have : crc 0xffffffff#32 (b.take (i + 1)) = bst (crc 0xffffffff#32 (b.take i)) b[i] := zih _ _ _ _ _ hg
  rw [← this]
  rfl
 ·show qct_B0 n _ _ _ _ = _
  dsimp only
  unfold qct_B0
  rw [zd, decide_eq_false (by omega), cond_false, List.take_length]
theorem of_eq (n : Nat) (b : List Int) (hb : IsBytes b) (hl : b.length ≤ 4294967296) (hn : b.length + 9 ≤ n) : qct n b = some (W32 (sumV b)) := by
 unfold qct
 rw [zpo n b hb hl hn]
 show some (notI .u32 (W32 (crc 0xffffffff#32 b))) = _
 rw [zmt]
 rfl
theorem zpk (n : Nat) (b : List Int) (x : BitVec 32) (c : Int) (hn : 9 ≤ n) : qci_W2 n (b, W32 x, c, 0) = some (b, W32 (it stp 8 x), c) := by
 refine zce (f := fun i => (b, W32 (it stp i x), c, (i : Int))) (k := 8) (fun i hi => ?_) ?_ 8 0 n rfl (by omega)
 ·show qci_B2 n _ _ _ _ = _
  dsimp only
  unfold qci_B2
  have h := zoM (it stp i x)
  rw [decide_eq_true (by omega), cond_true, zcl (by omega) (by omega)]
  cases hc : remI (W32 (it stp i x)) 2 == 1 with
  | true => rw [hc, cond_true] at h; rw [cond_true, h]; rfl
  | false => rw [hc, cond_false] at h; rw [cond_false, h]; rfl
 ·rfl
theorem zpg (n : Nat) (b : List Int) (hb : IsBytes b) (hl : b.length ≤ 4294967296) (hn : b.length + 9 ≤ n) : qci_W0 n (b, (4294967295, 0)) = some (W32 (crc 0xffffffff#32 b)) := by
 have := zce (B := fun s => qci_B0 n s.1 s.2.1 s.2.2) (f := fun i => (b, W32 (crc 0xffffffff#32 (b.take i)), (i : Int))) (k := b.length) (x := W32 (crc 0xffffffff#32 b)) (fun i hi => ?_) ?_ b.length 0 n (by omega) (by omega)
 ·exact this
 ·show qci_B0 n _ _ _ = _
  dsimp only
  unfold qci_B0
  have hg : b[i]? = some b[i] := List.getElem?_eq_getElem hi
  have hc := hb b[i] (List.getElem_mem hi)
  rw [zd, decide_eq_true (by omega), cond_true, zn, hg]
  show ((qci_W2 n (b, xorI .u32 (W32 (crc 0xffffffff#32 (b.take i))) (cvtI .u32 b[i]), (i : Int), 0)).bind fun r2 => some (Sum.inl (r2.1, (r2.2.1, (addI .i64 r2.2.2 1))))) = _
  rw [zkH hc.1 (by omega), zgH, zbw, zpk _ _ _ _ (by omega)]
  show some (Sum.inl (b, W32 (bst (crc 0xffffffff#32 (b.take i)) b[i]), addI .i64 (i : Int) 1)) = _
  rw [zcl (by omega) (by omega)]
  have : crc 0xffffffff#32 (b.take (i + 1)) = bst (crc 0xffffffff#32 (b.take i)) b[i] := zih _ _ _ _ _ hg
  rw [← this]
  rfl
 ·show qci_B0 n _ _ _ = _
  dsimp only
  unfold qci_B0
  rw [zd, decide_eq_false (by omega), cond_false, List.take_length]
theorem znb (n : Nat) (b : List Int) (hb : IsBytes b) (hl : b.length ≤ 4294967296) (hn : b.length + 9 ≤ n) : qci n b = some (W32 (sumV b)) := by
 unfold qci
 rw [zpg n b hb hl hn]
 show some (notI .u32 (W32 (crc 0xffffffff#32 b))) = _
 rw [zmt]
 rfl
end Sx
end
section
/- The bytes of any module; they are read again; their sum. -/
set_option linter.unusedVariables false
set_option linter.unusedSimpArgs false
set_option maxRecDepth 100000
namespace Sx
open Go Go.Ab
theorem answers6b : qbd 200000 = some true := by kernel_rfl
theorem zoh (m : ModD) (ho : OkM m) : qbh 200000 m.recs m.funcs m.imps m.ints m.texts = some (if fitsV m = true then W32 (sumV (encV m)) else 0) := by
 unfold qbh
 rw [zfq 200000 m ho (by omega), Option.bind_some]
 cases hf : fitsV m with
 | false => rfl
 | true =>
  have hlen := zhR m ho hf
  rw [if_pos rfl, if_pos rfl]
  show (bif ((0 : Int) != 0) then some 0 else (qct 200000 (encV m)).bind fun r => some r) = _
  rw [show ((0 : Int) != 0) = false from rfl, cond_false, of_eq 200000 (encV m) (zcx ho hf) (by omega) (by omega)]
  rfl
theorem zln (m : ModD) (ho : OkM m) (hl : LenM m) : law06ModuleBack 200000 m.recs m.funcs m.imps m.ints m.texts = some true := by
 unfold law06ModuleBack
 obtain ⟨x, e, hL⟩ := zkD 200000 m hl (by omega)
 rw [e, Option.bind_some, answers6b]
 cases x with
 | false => rfl
 | true =>
  obtain ⟨bb, hbb, hb2⟩ := zjA 200000 m ho (hL rfl) (by omega)
  rw [zfq 200000 m ho (by omega), hbb, zoh m ho]
  simp only [Bool.not_true, cond_false, Option.bind_some]
  cases hf : fitsV m with
  | false => rfl
  | true =>
   obtain rfl := hb2 hf
   have hlen := zhR m ho hf
   rw [if_pos rfl]
   simp only [Bool.not_true, cond_false]
   rw [zke 200000 m ho hf (by omega), qcf_eq 200000 (encV m) (encV m) (by omega) (by omega), zam (encV m) fun x _ => by simp [eqN], znb 200000 (encV m) (zcx ho hf) (by omega) (by omega)]
   simp only [Option.bind_some, cond_true]
   rw [show ((0 : Int) == 0) = true from rfl, cond_true, cond_true]
   show ((qt 200000 m.recs m.funcs m.imps m.ints m.texts m.recs m.funcs m.imps m.ints m.texts).bind _) = _
   rw [zme 200000 m m (hL rfl) (by omega), zlK]
   simp
end Sx
end
section
/- The plain laws at the rows' own data. -/
set_option linter.unusedVariables false
namespace Sx
open Go Go.Ab
abbrev tyT : Ty := .cons (.int .i64) (.int .i64)
abbrev tysT : Ty := .sl true tyT
abbrev fnT : Ty := .cons tysT (.cons (.int .i64) (.cons (.int .i64) (.cons tysT (.sl true (.cons (.int .i64) (.cons (.int .i64) (.int .i64)))))))
abbrev imT : Ty := .cons tysT (.cons (.int .i64) (.int .i64))
def shM : Sh := .agg (.cons (.sl true false tysT) (.cons (.sl true true fnT) (.cons (.sl true true imT) (.cons (.sl true false (.int .u64)) (.cons (.sl true false .str) .nil)))))
abbrev MTup := List (List TyD) × List FnD × List ImD × List Int × List ByteArray
def modOf (d : MTup) : ModD := ⟨d.1, d.2.1, d.2.2.1, d.2.2.2.1, d.2.2.2.2⟩
theorem zos {t : TyD} (h : Fit tyT t) : okT t := ⟨zfD h.1, zfD h.2⟩
theorem zbk {l : List TyD} (h : Fit tysT l) : okTs l ∧ l.length ≤ 140737488351232 := ⟨fun t ht => zos (h.2 t ht), h.1⟩
theorem zmp {d : MTup} (h : FitS shM d) : OkM (modOf d) ∧ LenM (modOf d) := by
 obtain ⟨h1, h2, h3, h4, h5, _⟩ : Fit (.sl false tysT) d.1 ∧ Fit (.sl true fnT) d.2.1 ∧ Fit (.sl true imT) d.2.2.1 ∧ Fit (.sl false (.int .u64)) d.2.2.2.1 ∧ Fit (.sl false .str) d.2.2.2.2 ∧ True := h
 obtain ⟨l1, e1⟩ := h1
 obtain ⟨l2, e2⟩ := h2
 obtain ⟨l3, e3⟩ := h3
 obtain ⟨l4, e4⟩ := h4
 obtain ⟨l5, e5⟩ := h5
 have f2 : ∀ f ∈ d.2.1, Fit tysT f.1 ∧ Fit (.int .i64) f.2.1 ∧ Fit (.int .i64) f.2.2.1 ∧ Fit tysT f.2.2.2.1 ∧ f.2.2.2.2.length ≤ reachBytes := fun f hf => by
  obtain ⟨a1, a2, a3, a4, a5⟩ := e2 f hf
  exact ⟨a1, a2, a3, a4, a5.1⟩
 have f3 : ∀ f ∈ d.2.2.1, Fit tysT f.1 ∧ Fit (.int .i64) f.2.1 ∧ Fit (.int .i64) f.2.2 := e3
 refine ⟨⟨fun l hl => (zbk (e1 l hl)).1, fun f hf => ?_, fun f hf => ?_, fun v hv => zpi (e4 v hv)⟩, ⟨l1, l2, l3, l4, l5, fun l hl => (zbk (e1 l hl)).2, fun f hf => ?_, fun f hf => ?_, e5⟩⟩
 ·obtain ⟨a1, a2, a3, a4, a5⟩ := f2 f hf
  exact ⟨(zbk a1).1, ⟨zfD a2, zfD a3⟩, (zbk a4).1⟩
 ·obtain ⟨a1, a2, a3⟩ := f3 f hf
  exact ⟨(zbk a1).1, ⟨zfD a2, zfD a3⟩⟩
 ·obtain ⟨a1, a2, a3, a4, a5⟩ := f2 f hf
  exact ⟨(zbk a1).2, (zbk a4).2, a5⟩
 ·exact (zbk (f3 f hf).1).2
end Sx
end
section
/- The plain law at the row's own data. -/
set_option linter.unusedVariables false
namespace Sx
open Go Go.Ab
theorem zlT (d : MTup) (hf : FitS (.cons shM .nil) d) : ∃ n, law06ModuleBack n d.1 d.2.1 d.2.2.1 d.2.2.2.1 d.2.2.2.2 = some true := by
 obtain ⟨h1, _⟩ : FitS shM d ∧ True := hf
 exact ⟨200000, zln (modOf d) (zmp (d := d) h1).1 (zmp (d := d) h1).2⟩
end Sx
end
