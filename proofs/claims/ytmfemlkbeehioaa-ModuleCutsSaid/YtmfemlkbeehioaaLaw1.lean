/- Plain laws (texts MrA, MrB, MrC, MrE, MrF, MrG, MrHa, MrS, MrT, MrU, MrV, MrW, MrX, MrY, MrZ, ModRowPlain2). -/
import Derived.Test.YtmfemlkbeehioaaModRSh
import Derived.Test.YtmfemlkbeehioaaLib8
import Derived.KernelRfl
import Derived.Test.YtmfemlkbeehioaaLib31
section
/- Numbers, types and instructions as bytes: what the printed functions come to. -/
set_option linter.unusedVariables false
set_option linter.unusedSimpArgs false
namespace Sx
open Go Go.Ab
def varF : Nat → Nat → List Int
 | 0, v => [(v : Int)]
 | k + 1, v => if v < 128 then [(v : Int)] else ((128 + v % 128 : Nat) : Int) :: varF k (v / 128)
def varN (v : Nat) : List Int := varF 10 v
theorem zhL : ∀ (k v : Nat), 1 ≤ (varF k v).length ∧ (varF k v).length ≤ k + 1
 | 0, v => ⟨Nat.le_refl _, Nat.le_refl _⟩
 | k + 1, v => by
  unfold varF
  split
  ·exact ⟨by simp, by simp⟩
  ·have := zhL k (v / 128)
   rw [List.length_cons]; omega
theorem zg (v : Nat) : 1 ≤ (varN v).length ∧ (varN v).length ≤ 11 := zhL 10 v
theorem zhR : ∀ (k v : Nat), v < 128 ^ (k + 1) → ∀ x ∈ varF k v, 0 ≤ x ∧ x ≤ 255
 | 0, v, h, x, hx => by
  simp only [varF, List.mem_singleton] at hx
  omega
 | k + 1, v, h, x, hx => by
  unfold varF at hx
  split at hx
  ·rw [List.mem_singleton.1 hx]; omega
  ·rcases List.mem_cons.1 hx with rfl | hx
   ·omega
   ·exact zhR k (v / 128) (by rw [Nat.pow_succ] at h; omega) x hx
theorem zeo {v : Nat} (h : v < 18446744073709551616) : ∀ x ∈ varN v, 0 ≤ x ∧ x ≤ 255 := zhR 10 v (by omega)
theorem or128 (v : Nat) : orI .u8 (cvtI .u8 (v : Int)) 128 = ((128 + v % 128 : Nat) : Int) := by
 rw [zga]
 have h : ∀ m : Nat, m < 256 → orI .u8 (m : Int) 128 = ((128 + m % 128 : Nat) : Int) := by decide +kernel
 have := h (v % 256) (by omega)
 rw [show ((v : Int) % 256) = ((v % 256 : Nat) : Int) by omega, this]
 omega
theorem shr7 (v : Nat) : shrI .u64 (v : Int) 7 = ((v / 128 : Nat) : Int) := by
 show (v : Int).fdiv (2 ^ (min (7 : Int).toNat 64)) = _
 rw [show ((2 : Int) ^ (min (7 : Int).toNat 64)) = 128 from rfl, Int.fdiv_eq_ediv_of_nonneg _ (by omega)]
 omega
theorem qcq_loop (n : Nat) : ∀ (k v m : Nat) (acc : List Int), v < 128 ^ (k + 1) → acc.length + k ≤ 4294967000 → k < m → ∃ r, loopS (fun s => qcq_B0 n s.1 s.2) m ((v : Int), acc) = some r ∧ 0 ≤ r.1 ∧ r.1 ≤ 127 ∧ r.2 ++ [r.1] = acc ++ varF k v ∧ r.2.length ≤ acc.length + k
 | 0, v, m + 1, acc, hv, ha, hm => by
  refine ⟨((v : Int), acc), zr ?_, by omega, by simp only []; omega, rfl, by simp⟩
  show qcq_B0 n (v : Int) acc = _
  unfold qcq_B0
  rw [decide_eq_false (by omega), cond_false]
 | k + 1, v, m + 1, acc, hv, ha, hm => by
  by_cases h : v < 128
  ·refine ⟨((v : Int), acc), zr ?_, by omega, by simp only []; omega, by simp [varF, h], by simp⟩
   show qcq_B0 n (v : Int) acc = _
   unfold qcq_B0
   rw [decide_eq_false (by omega), cond_false]
  ·have hb : qcq_B0 n (v : Int) acc = some (Sum.inl (((v / 128 : Nat) : Int), acc ++ [((128 + v % 128 : Nat) : Int)])) := by
    unfold qcq_B0
    rw [decide_eq_true (by omega), cond_true, or128, shr7, zn (by simp; omega), cond_true]
   rw [zB (s := ((v : Int), acc)) hb]
   obtain ⟨r, h1, h2, h3, h4, h5⟩ := qcq_loop n k (v / 128) m (acc ++ [((128 + v % 128 : Nat) : Int)]) (by rw [Nat.pow_succ] at hv; omega) (by simp; omega) (by omega)
   refine ⟨r, h1, h2, h3, ?_, by simp at h5; omega⟩
   rw [h4, varF, if_neg h]
   simp
 | _, _, 0, _, _, _, hm => by omega
theorem qcq_eq (n v : Nat) (hv : v < 18446744073709551616) (hn : 20 ≤ n) : qcq n (v : Int) = some (varN v) := by
 unfold qcq
 obtain ⟨r, h1, h2, h3, h4, h5⟩ := qcq_loop n 10 v n [] (by omega) (by simp) (by omega)
 rw [show qcq_W0 n ((v : Int), []) = some r from h1, Option.bind_some, zcE h2 (by omega), h4, zn (by have := zg v; simp [varN] at this; simp; omega), cond_true]
 rfl
theorem quo128 {v : Nat} (hv : v < 18446744073709551616) : quoI .u64 (v : Int) 128 = ((v / 128 : Nat) : Int) := by
 show IntKind.u64.wrap ((v : Int).tdiv 128) = _
 rw [Int.tdiv_eq_ediv_of_nonneg (by omega), wrapU64]
 omega
theorem zkR (n : Nat) : ∀ (k v d : Nat), v < 128 ^ (k + 1) → v < 18446744073709551616 → k < d → k ≤ 11 → qcg_D n d (v : Int) = some (varF k v)
 | 0, v, d + 1, hv, h64, hd, hk => by
  show qcg_S n (qcg_D n d) (v : Int) = _
  unfold qcg_S
  rw [decide_eq_true (by omega), cond_true, zcE (by omega) (by omega)]; rfl
 | k + 1, v, d + 1, hv, h64, hd, hk => by
  show qcg_S n (qcg_D n d) (v : Int) = _
  unfold qcg_S
  by_cases h : v < 128
  ·rw [decide_eq_true (by omega), cond_true, zcE (by omega) (by omega), varF, if_pos h]
  ·have hl := zhL k (v / 128)
   rw [decide_eq_false (by omega), cond_false, quo128 h64, zkR n k (v / 128) d (by rw [Nat.pow_succ] at hv; omega) (by omega) (by omega) (by omega), Option.bind_some, zcW (by omega)]
   have h1 : addI .u64 128 ((v : Int) % 128) = ((128 + v % 128 : Nat) : Int) := by
    show IntKind.u64.wrap _ = _
    rw [wrapU64]; omega
   rw [h1, zcE (by omega) (by omega), zn (by simp; omega), cond_true, varF, if_neg h]
   rfl
 | _, _, 0, _, _, hd, _ => by omega
theorem zO (n v : Nat) (hv : v < 18446744073709551616) (hn : 20 ≤ n) : qcg n (v : Int) = some (varN v) := zkR n 10 v n (by omega) hv (by omega) (by omega)
def fixN (k v : Nat) : List Int := (List.range k).map fun i => ((v / 256 ^ i % 256 : Nat) : Int)
theorem zbF (k v : Nat) : (fixN k v).length = k := by simp [fixN]
def pos (k : Int) : Nat := k.toNat
def typV (t : Int × Int) : List Int := varN (pos t.1) ++ varN (pos t.2)
theorem zah (t : Int × Int) : (typV t).length ≤ 22 := by
 have := zg (pos t.1)
 have := zg (pos t.2)
 rw [typV, List.length_append]; omega
def okI (x : Int) : Prop := -9223372036854775808 ≤ x ∧ x ≤ 9223372036854775807
def okT (t : Int × Int) : Prop := okI t.1 ∧ okI t.2
theorem zng {k : Int} (h : okI k) : pos k < 18446744073709551616 := by
 unfold pos; unfold okI at h; omega
theorem maxI0 {k : Int} (h : okI k) : cvtI .u64 (maxI k 0) = ((pos k : Nat) : Int) := by
 unfold maxI pos; unfold okI at h
 by_cases h0 : k < 0
 ·rw [decide_eq_true (by omega), cond_true]
  have : k.toNat = 0 := by omega
  rw [this]; rfl
 ·rw [decide_eq_false (by omega), cond_false, zA (by omega) (by omega)]; omega
theorem qcm_eq (n : Nat) (t : Int × Int) (ht : okT t) (hn : 20 ≤ n) : qcm n t.1 t.2 = some (typV t) := by
 unfold qcm
 have hl := zah t
 rw [maxI0 ht.1, maxI0 ht.2, qcq_eq n _ (zng ht.1) hn, Option.bind_some, qcq_eq n _ (zng ht.2) hn, Option.bind_some]
 show (bif Nat.ble (typV t).length 4294967296 then some (typV t) else none) = _
 rw [zn (by omega), cond_true]
theorem zel (n : Nat) (t : Int × Int) (ht : okT t) (hn : 20 ≤ n) : qcc n t.1 t.2 = some (typV t) := by
 have hl := zah t
 have h0 : ∀ {k : Int}, okI k → k < 0 → qcg n (cvtI .u64 0) = some (varN (pos k)) := by
  intro k hk h
  rw [show cvtI .u64 0 = ((0 : Nat) : Int) from rfl, zO n 0 (by omega) hn]
  have : pos k = 0 := by unfold pos; omega
  rw [this]
 have h1 : ∀ {k : Int}, okI k → ¬ k < 0 → qcg n (cvtI .u64 k) = some (varN (pos k)) := by
  intro k hk h
  unfold okI at hk
  have : cvtI .u64 k = ((pos k : Nat) : Int) := by
   rw [zA (by omega) (by omega)]; unfold pos; omega
  rw [this, zO n _ (by unfold pos; omega) hn]
 have fin : (bif Nat.ble (varN (pos t.1) ++ varN (pos t.2)).length 4294967296 then some (varN (pos t.1) ++ varN (pos t.2)) else none) = some (typV t) := by
  show (bif Nat.ble (typV t).length 4294967296 then some (typV t) else none) = _
  rw [zn (by omega), cond_true]
 unfold qcc
 by_cases ha : t.1 < 0
 ·by_cases hb : t.2 < 0
  ·rw [decide_eq_true ha, cond_true, decide_eq_true hb, cond_true, h0 ht.1 ha, Option.bind_some]
   have := h0 ht.2 hb
   rw [h0 ht.1 ha] at this
   rw [Option.bind_some, Option.some.inj this, ← Option.some.inj this] 
   rw [Option.some.inj this] at fin ⊢
   exact fin
  ·rw [decide_eq_true ha, cond_true, decide_eq_false hb, cond_false, h0 ht.1 ha, Option.bind_some, h1 ht.2 hb, Option.bind_some]
   exact fin
 ·by_cases hb : t.2 < 0
  ·rw [decide_eq_false ha, cond_false, decide_eq_true hb, cond_true, h1 ht.1 ha, Option.bind_some, h0 ht.2 hb, Option.bind_some]
   exact fin
  ·rw [decide_eq_false ha, cond_false, decide_eq_false hb, cond_false, h1 ht.1 ha, Option.bind_some, h1 ht.2 hb, Option.bind_some]
   exact fin
def goodV (recs : Int) (t : Int × Int) : Bool :=
 if t.1 = 1 ∨ t.1 = 2 ∨ t.1 = 3 ∨ t.1 = 7 then t.2 == 0 else if t.1 = 4 then decide (0 ≤ t.2 ∧ t.2 < recs) else if t.1 = 5 then decide (0 ≤ t.2 ∧ t.2 < 4) else false
theorem zeV (n : Nat) (t : Int × Int) (recs : Int) : qch n t.1 t.2 recs = some (goodV recs t) := by
 obtain ⟨k, m⟩ := t
 unfold qch goodV
 simp only [Bool.cond_eq_ite, beq_iff_eq, decide_eq_true_eq]
 by_cases h1 : k = 1
 ·simp [h1]
 by_cases h2 : k = 2
 ·simp [h2]
 by_cases h3 : k = 3
 ·simp [h3]
 by_cases h7 : k = 7
 ·simp [h7]
 by_cases h4 : k = 4
 ·by_cases hm : 0 ≤ m <;> simp [h4, hm]
 by_cases h5 : k = 5
 ·by_cases hm : 0 ≤ m <;> simp [h5, hm]
 simp [h1, h2, h3, h4, h5, h7]
theorem zef (n : Nat) (t : Int × Int) (recs : Int) : qbz n t.1 t.2 recs = some (goodV recs t) := zeV n t recs
end Sx
end
section
/- Instructions as bytes; lists of types. -/
set_option linter.unusedVariables false
set_option linter.unusedSimpArgs false
namespace Sx
open Go Go.Ab
def argsV (op : Int) : Int :=
 if op < 0 ∨ 42 ≤ op then -1 else if op = 29 ∨ op = 30 then 2
 else if op = 0 ∨ op = 1 ∨ op = 3 ∨ op = 4 ∨ op = 23 ∨ op = 24 ∨ op = 25 ∨ op = 27 ∨ op = 28 then 1 else 0
theorem zdn (op : Int) : argsV op = -1 ∨ argsV op = 0 ∨ argsV op = 1 ∨ argsV op = 2 := by
 unfold argsV
 split
 ·exact .inl rfl
 ·split
  ·exact .inr (.inr (.inr rfl))
  ·split
   ·exact .inr (.inr (.inl rfl))
   ·exact .inr (.inl rfl)
theorem zhV {op : Int} (h : 0 ≤ argsV op) : 0 ≤ op ∧ op < 42 := by
 unfold argsV at h
 split at h <;> omega
theorem qci_eq (n : Nat) (op : Int) : qci n op = some (argsV op) := by
 by_cases h : 0 ≤ op ∧ op < 42
 ·obtain ⟨k, rfl⟩ : ∃ k : Nat, op = (k : Int) := ⟨op.toNat, by omega⟩
  have hk : ∀ k : Nat, k < 42 → qci 0 (k : Int) = some (argsV (k : Int)) := by decide +kernel
  exact hk k (by omega)
 ·have ha : argsV op = -1 := by
   unfold argsV
   rw [if_pos (by omega)]
  rw [ha]
  unfold qci
  simp only [Bool.cond_eq_ite, beq_iff_eq, decide_eq_true_eq]
  rw [if_neg (by omega), if_neg (by omega), if_neg (by omega), if_neg (by omega), if_neg (by omega), if_neg (by omega), if_neg (by omega), if_neg (by omega), if_neg (by omega), if_neg (by omega), if_neg (by omega)]
  by_cases h0 : op < 0
  ·rw [if_pos h0]
  ·rw [if_neg h0, if_pos (by omega)]
theorem zlq (n : Nat) (op : Int) (hn : 10 ≤ n) : qce n op = some (argsV op) := by
 by_cases h : 0 ≤ op ∧ op < 42
 ·obtain ⟨k, rfl⟩ : ∃ k : Nat, op = (k : Int) := ⟨op.toNat, by omega⟩
  have hk : ∀ k : Nat, k < 42 → qce 10 (k : Int) = some (argsV (k : Int)) := by decide +kernel
  have h3 := hk k (by omega)
  unfold qce at h3 ⊢
  rw [decide_eq_false (by omega), cond_false, decide_eq_false (by omega), cond_false] at h3 ⊢
  cases h29 : ((k : Int) == 29) with
  | true => rw [h29] at h3; exact h3
  | false =>
   rw [h29, cond_false] at h3
   rw [cond_false]
   cases h30 : ((k : Int) == 30) with
   | true => rw [h30] at h3; exact h3
   | false =>
    rw [h30, cond_false] at h3
    rw [cond_false]
    obtain ⟨x, hx, h4⟩ := Option.bind_eq_some_iff.1 h3
    rw [show qce_W0 n ((k : Int), [0, 1, 3, 4, 23, 24, 25, 27, 28], 0) = some x from zgZ (n := 10) hx n hn]
    exact h4
 ·have ha : argsV op = -1 := by
   unfold argsV
   rw [if_pos (by omega)]
  rw [ha]
  unfold qce
  simp only [Bool.cond_eq_ite, beq_iff_eq, decide_eq_true_eq]
  by_cases h0 : op < 0
  ·rw [if_pos h0]
  ·rw [if_neg h0, if_pos (by omega)]
theorem qcl_eq (n : Nat) (v : Int) (b : Bool) : qcl n v b = some (decide (0 ≤ v ∧ v ≤ 255 ∧ (b = true ∨ v = 0))) := by
 unfold qcl
 simp only [Bool.cond_eq_ite, decide_eq_true_eq]
 by_cases h1 : v ≥ 0
 ·by_cases h2 : v ≤ 255
  ·cases b with
   | true => rw [if_pos h1, if_pos h2, if_pos rfl, decide_eq_true (by simp; omega)]
   | false =>
    rw [if_pos h1, if_pos h2, if_neg (by simp)]
    by_cases h3 : v = 0
    ·simp [h3]
    ·rw [beq_false_of_ne h3, decide_eq_false (by simp; omega)]
  ·rw [if_pos h1, if_neg h2, decide_eq_false (by omega)]
 ·rw [if_neg h1, decide_eq_false (by omega)]
def badI (i : Int × Int × Int) : Bool :=
 decide (argsV i.1 < 0 ∨ ¬ (0 ≤ i.2.1 ∧ i.2.1 ≤ 255 ∧ (argsV i.1 > 0 ∨ i.2.1 = 0)) ∨ ¬ (0 ≤ i.2.2 ∧ i.2.2 ≤ 255 ∧ (argsV i.1 > 1 ∨ i.2.2 = 0)))
def putV (i : Int × Int × Int) : List Int :=
 if badI i = true then [] else i.1 :: ((if argsV i.1 > 0 then varN i.2.1.toNat else []) ++ (if argsV i.1 > 1 then varN i.2.2.toNat else []))
theorem zda (i : Int × Int × Int) : (putV i).length ≤ 23 := by
 unfold putV
 have := zg i.2.1.toNat
 have := zg i.2.2.toNat
 split
 ·simp
 ·rw [List.length_cons, List.length_append]
  split <;> split <;> simp <;> omega
theorem zkc (i : Int × Int × Int) : ((putV i).length == 0) = badI i := by
 unfold putV
 cases badI i <;> simp
theorem zgq (n : Nat) (v : Int) (h1 : 0 ≤ v) (h2 : v ≤ 255) (hn : 20 ≤ n) : qcq n (cvtI .u64 v) = some (varN v.toNat) ∧ qcg n (cvtI .u64 v) = some (varN v.toNat) := by
 have : cvtI .u64 v = ((v.toNat : Nat) : Int) := by rw [zA h1 (by omega)]; omega
 rw [this]
 exact ⟨qcq_eq n _ (by omega) hn, zO n _ (by omega) hn⟩
theorem qco_eq (n : Nat) (i : Int × Int × Int) (hn : 20 ≤ n) : qco n i.1 i.2.1 i.2.2 = some (putV i) := by
 obtain ⟨op, a, b⟩ := i
 unfold qco putV badI
 rw [qci_eq, Option.bind_some]
 simp only []
 by_cases h0 : argsV op < 0
 ·rw [decide_eq_true h0, cond_true, if_pos (by rw [decide_eq_true (.inl h0)])]
 rw [decide_eq_false h0, cond_false, qcl_eq, Option.bind_some]
 by_cases h1 : 0 ≤ a ∧ a ≤ 255 ∧ (argsV op > 0 ∨ a = 0)
 ·have h1' : 0 ≤ a ∧ a ≤ 255 ∧ (decide (argsV op > 0) = true ∨ a = 0) := by simpa using h1
  rw [decide_eq_true h1', Bool.not_true, cond_false, qcl_eq, Option.bind_some]
  by_cases h2 : 0 ≤ b ∧ b ≤ 255 ∧ (argsV op > 1 ∨ b = 0)
  ·have h2' : 0 ≤ b ∧ b ≤ 255 ∧ (decide (argsV op > 1) = true ∨ b = 0) := by simpa using h2
   have hop := zhV (op := op) (by omega)
   rw [decide_eq_true h2', Bool.not_true, cond_false, if_neg (by rw [decide_eq_false]; simp; exact fun h => by rcases h with h | h | h; exact h0 h; exact h h1; exact h h2), zcE hop.1 (by omega)]
   have va := (zgq n a h1.1 h1.2.1 hn).1
   have vb := (zgq n b h2.1 h2.2.1 hn).1
   have la := zg a.toNat
   have lb := zg b.toNat
   rcases zdn op with hk | hk | hk | hk
   ·omega
   ·rw [hk]
    obtain ⟨m, rfl⟩ : ∃ m, n = m + 1 := ⟨n - 1, by omega⟩
    rw [show (decide ((0 : Int) ≤ 0) && decide ((0 : Int) ≤ 2)) = true from rfl, cond_true]
    have h : qco_W0 (m + 1) (((0, (Int.toNat 0) - 0), (((((Int.toNat 0) - 0) : Nat) : Int), 0)), ([op], (a, b))) = some ([op], (a, b)) := by
     refine zr ?_
     rfl
    rw [h]
    rfl
   ·rw [hk]
    obtain ⟨m, rfl⟩ : ∃ m, n = m + 2 := ⟨n - 2, by omega⟩
    rw [show (decide ((0 : Int) ≤ 1) && decide ((1 : Int) ≤ 2)) = true from rfl, cond_true]
    have h : qco_W0 (m + 2) (((0, (Int.toNat 1) - 0), (((((Int.toNat 1) - 0) : Nat) : Int), 0)), ([op], (a, b))) = some ([op] ++ varN a.toNat, (a, b)) := by
     refine (zB (s' := (((0, 1), ((1 : Int), (1 : Int))), ([op] ++ varN a.toNat, (a, b)))) ?_).trans (zr ?_)
     ·show ((qcq (m + 2) (cvtI .u64 a)).bind fun r46 => bif Nat.ble ([op] ++ r46).length 4294967296 then some (Sum.inl (((0, 1), ((1 : Int), (addI .i64 0 1))), (([op] ++ r46), (a, b)))) else none) = _
      rw [va, Option.bind_some, zn (by simp; omega)]
      rfl
     ·rfl
    rw [h]
    simp
   ·rw [hk]
    obtain ⟨m, rfl⟩ : ∃ m, n = m + 3 := ⟨n - 3, by omega⟩
    rw [show (decide ((0 : Int) ≤ 2) && decide ((2 : Int) ≤ 2)) = true from rfl, cond_true]
    have h : qco_W0 (m + 3) (((0, (Int.toNat 2) - 0), (((((Int.toNat 2) - 0) : Nat) : Int), 0)), ([op], (a, b))) = some (([op] ++ varN a.toNat) ++ varN b.toNat, (a, b)) := by
     refine (zB (s' := (((0, 2), ((2 : Int), (1 : Int))), ([op] ++ varN a.toNat, (a, b)))) ?_).trans ((zB (s' := (((0, 2), ((2 : Int), (2 : Int))), (([op] ++ varN a.toNat) ++ varN b.toNat, (a, b)))) ?_).trans (zr ?_))
     ·show ((qcq (m + 3) (cvtI .u64 a)).bind fun r46 => bif Nat.ble ([op] ++ r46).length 4294967296 then some (Sum.inl (((0, 2), ((2 : Int), (addI .i64 0 1))), (([op] ++ r46), (a, b)))) else none) = _
      rw [va, Option.bind_some, zn (by simp; omega)]
      rfl
     ·show ((qcq (m + 3) (cvtI .u64 b)).bind fun r46 => bif Nat.ble (([op] ++ varN a.toNat) ++ r46).length 4294967296 then some (Sum.inl (((0, 2), ((2 : Int), (addI .i64 1 1))), ((([op] ++ varN a.toNat) ++ r46), (a, b)))) else none) = _
      rw [vb, Option.bind_some, zn (by simp; omega)]
      rfl
     ·rfl
    rw [h]
    simp
  ·have h2' : ¬ (0 ≤ b ∧ b ≤ 255 ∧ (decide (argsV op > 1) = true ∨ b = 0)) := by simpa using h2
   rw [decide_eq_false h2', Bool.not_false, cond_true, if_pos (by rw [decide_eq_true (.inr (.inr h2))])]
 ·have h1' : ¬ (0 ≤ a ∧ a ≤ 255 ∧ (decide (argsV op > 0) = true ∨ a = 0)) := by simpa using h1
  rw [decide_eq_false h1', Bool.not_false, cond_true, if_pos (by rw [decide_eq_true (.inr (.inl h1))])]
theorem zkF (n : Nat) (i : Int × Int × Int) (hn : 20 ≤ n) : qbs n i.1 i.2.1 i.2.2 = some (putV i) := by
 obtain ⟨op, a, b⟩ := i
 unfold qbs putV badI
 rw [zlq n _ (by omega), Option.bind_some]
 simp only [Bool.cond_eq_ite, decide_eq_true_eq, bne_iff_ne]
 by_cases h0 : argsV op < 0
 ·rw [if_pos h0, if_pos (.inl h0)]
 rw [if_neg h0]
 by_cases ha0 : a < 0
 ·rw [if_pos ha0, if_pos (by omega)]
 rw [if_neg ha0]
 by_cases ha1 : a > 255
 ·rw [if_pos ha1, if_pos (by omega)]
 rw [if_neg ha1]
 by_cases hb0 : b < 0
 ·rw [if_pos hb0, if_pos (by omega)]
 rw [if_neg hb0]
 by_cases hb1 : b > 255
 ·rw [if_pos hb1, if_pos (by omega)]
 rw [if_neg hb1]
 have hop := zhV (op := op) (by omega)
 have va := (zgq n a (by omega) (by omega) hn).2
 have vb := (zgq n b (by omega) (by omega) hn).2
 have la := zg a.toNat
 have lb := zg b.toNat
 rw [zcE hop.1 (by omega), va, vb]
 simp only [Option.bind_some]
 have f1 : Nat.ble ([op] ++ varN a.toNat).length 4294967296 = true := zn (by simp; omega)
 have f2 : Nat.ble ([op] ++ varN b.toNat).length 4294967296 = true := zn (by simp; omega)
 have f3 : Nat.ble (([op] ++ varN a.toNat) ++ varN b.toNat).length 4294967296 = true := zn (by simp; omega)
 rw [f1, f2, f3]
 rcases zdn op with hk | hk | hk | hk
 ·omega
 ·rw [hk]
  by_cases ha : a = 0
  ·by_cases hb : b = 0
   ·simp [ha, hb]
   ·simp [ha, hb]
  ·simp [ha]
 ·rw [hk]
  by_cases hb : b = 0
  ·simp [hb]; omega
  ·simp [hb]
 ·rw [hk]
  simp; omega
end Sx
end
section
/- What may be a module, and its bytes: what the program's functions come to. -/
set_option linter.unusedVariables false
set_option linter.unusedSimpArgs false
namespace Sx
open Go Go.Ab
abbrev TyD := Int × Int
abbrev InD := Int × Int × Int
abbrev FnD := List TyD × Int × Int × List TyD × List InD
abbrev ImD := List TyD × Int × Int
def goodsV (recs most : Int) (l : List TyD) : Bool := decide ((l.length : Int) ≤ most) && l.all (goodV recs)
theorem findType (n : Nat) (l : List TyD) (recs : Int) (hl : l.length ≤ 4294967000) (hn : l.length < n) : qq n l recs = some (l.any (fun t => !goodV recs t), recs) := by
 unfold qq qav
 have h := zab (B := fun s => qav_B0 n s.1.1 s.1.2.1 s.1.2.2 s.2) (xs := l) (mk := fun i => ((l, (lenI l, (i : Int))), recs)) (p := fun t => !goodV recs t) (found := fun i x => Sum.inl ((i : Int), recs)) (e := Sum.inr recs)
  (fun i x hx => ?_) ?_ l.length 0 n (by omega) hn
 ·rw [List.drop_zero] at h
  rcases h with ⟨h1, k, x, _, _, h2⟩ | ⟨h1, h2⟩
  ·rw [show qav_W0 n ((l, (lenI l, 0)), recs) = some (Sum.inl ((k : Int), recs)) from h2, h1]
   show some (decide ((k : Int) ≥ 0), recs) = _
   rw [decide_eq_true (by omega)]
  ·rw [show qav_W0 n ((l, (lenI l, 0)), recs) = some (Sum.inr recs) from h2, h1]
   rfl
 ·have hi := zj hx
  show qav_B0 n l (lenI l) (i : Int) recs = _
  unfold qav_B0 qbq
  rw [zd, decide_eq_true (by omega), cond_true, zo, hx, Option.bind_some, zeV, Option.bind_some, Option.bind_some, zk (by omega)]
  cases goodV recs x <;> rfl
 ·show qav_B0 n l (lenI l) (l.length : Int) recs = _
  unfold qav_B0
  rw [zd, decide_eq_false (by omega), cond_false]
theorem zdp {α : Type} (p : α → Bool) (l : List α) : (!l.any fun t => !p t) = l.all p := by
 induction l with
 | nil => rfl
 | cons x l ih => rw [List.any_cons, List.all_cons, ← ih]; cases p x <;> simp
theorem znl (n : Nat) (l : List TyD) (recs most : Int) (hl : l.length ≤ 4294967000) (hn : l.length < n) : qby n l recs most = some (goodsV recs most l) := by
 unfold qby goodsV
 rw [zd, findType n l recs hl hn, Option.bind_some]
 show (bif decide ((l.length : Int) ≤ most) then some (!l.any fun t => !goodV recs t) else some false) = _
 rw [zdp]
 cases decide ((l.length : Int) ≤ most) <;> rfl
theorem zdC (n : Nat) (l : List TyD) (recs most : Int) (hm : most ≤ 64) (hn : 100 ≤ n) : qby n l recs most = some (goodsV recs most l) := by
 by_cases h : (l.length : Int) ≤ most
 ·exact znl n l recs most (by omega) (by omega)
 ·unfold qby goodsV
  rw [zd, decide_eq_false h, cond_false]
  rfl
theorem findTypes (n : Nat) (l : List (List TyD)) (recs : Int) (hl : l.length ≤ 64) (hn : 100 ≤ n) : qf n l recs = some (l.any (fun t => !goodsV recs 6 t), recs) := by
 unfold qf qab
 have h := zab (B := fun s => qab_B0 n s.1.1 s.1.2.1 s.1.2.2 s.2) (xs := l) (mk := fun i => ((l, (lenI l, (i : Int))), recs)) (p := fun t => !goodsV recs 6 t) (found := fun i x => Sum.inl ((i : Int), recs)) (e := Sum.inr recs)
  (fun i x hx => ?_) ?_ l.length 0 n (by omega) (by omega)
 ·rw [List.drop_zero] at h
  rcases h with ⟨h1, k, x, _, _, h2⟩ | ⟨h1, h2⟩
  ·rw [show qab_W0 n ((l, (lenI l, 0)), recs) = some (Sum.inl ((k : Int), recs)) from h2, h1]
   show some (decide ((k : Int) ≥ 0), recs) = _
   rw [decide_eq_true (by omega)]
  ·rw [show qab_W0 n ((l, (lenI l, 0)), recs) = some (Sum.inr recs) from h2, h1]
   rfl
 ·have hi := zj hx
  show qab_B0 n l (lenI l) (i : Int) recs = _
  unfold qab_B0 qbh
  rw [zd, decide_eq_true (by omega), cond_true, zo, hx, Option.bind_some, zdC n x recs 6 (by omega) hn, Option.bind_some, Option.bind_some, zk (by omega)]
  cases goodsV recs 6 x <;> rfl
 ·show qab_B0 n l (lenI l) (l.length : Int) recs = _
  unfold qab_B0
  rw [zd, decide_eq_false (by omega), cond_false]
theorem findInstr (n : Nat) (l : List InD) (hl : l.length ≤ 64) (hn : 100 ≤ n) : qi n l = some (l.any badI) := by
 unfold qi qaj
 have h := zab (B := fun s => qaj_B0 n s.1 s.2.1 s.2.2) (xs := l) (mk := fun i => (l, (lenI l, (i : Int)))) (p := badI) (found := fun i x => Sum.inl (i : Int)) (e := Sum.inr ())
  (fun i x hx => ?_) ?_ l.length 0 n (by omega) (by omega)
 ·rw [List.drop_zero] at h
  rcases h with ⟨h1, k, x, _, _, h2⟩ | ⟨h1, h2⟩
  ·rw [show qaj_W0 n (l, (lenI l, 0)) = some (Sum.inl (k : Int)) from h2, h1]
   show some (decide ((k : Int) ≥ 0)) = _
   rw [decide_eq_true (by omega)]
  ·rw [show qaj_W0 n (l, (lenI l, 0)) = some (Sum.inr ()) from h2, h1]
   rfl
 ·have hi := zj hx
  show qaj_B0 n l (lenI l) (i : Int) = _
  unfold qaj_B0 qah
  rw [zd, decide_eq_true (by omega), cond_true, zo, hx, Option.bind_some, qco_eq n x (by omega), Option.bind_some, Option.bind_some, zk (by omega), zd]
  have : (((putV x).length : Int) == 0) = badI x := by
   rw [← zkc]
   cases (putV x).length <;> rfl
  rw [this]
  cases badI x <;> rfl
 ·show qaj_B0 n l (lenI l) (l.length : Int) = _
  unfold qaj_B0
  rw [zd, decide_eq_false (by omega), cond_false]
def fitF (recs : Int) (f : FnD) : Bool :=
 goodsV recs 4 f.1 && (goodV recs (f.2.1, f.2.2.1) && (goodsV recs (8 - (f.1.length : Int)) f.2.2.2.1 && (decide (1 ≤ f.2.2.2.2.length) && (decide (f.2.2.2.2.length ≤ 64) && !f.2.2.2.2.any badI))))
theorem znT (n : Nat) (f : FnD) (recs : Int) (hn : 100 ≤ n) : qak n f.1 f.2.1 f.2.2.1 f.2.2.2.1 f.2.2.2.2 recs = some (fitF recs f) := by
 obtain ⟨a, k, m, l, c⟩ := f
 unfold qak fitF
 rw [zdC n a recs 4 (by omega) hn, Option.bind_some]
 simp only []
 cases hg : goodsV recs 4 a with
 | false => rfl
 | true =>
  have ha : (a.length : Int) ≤ 4 := by
   simp only [goodsV, Bool.and_eq_true, decide_eq_true_eq] at hg
   exact hg.1
  rw [cond_true, zeV n (k, m) recs, Option.bind_some]
  cases goodV recs (k, m) with
  | false => rfl
  | true =>
   rw [cond_true, zd, zkZ (by omega) (by omega), zdC n l recs _ (by omega) hn, Option.bind_some]
   cases goodsV recs (8 - (a.length : Int)) l with
   | false => rfl
   | true =>
    rw [cond_true, zd]
    by_cases h1 : 1 ≤ c.length
    ·rw [decide_eq_true (by omega), cond_true, decide_eq_true h1]
     by_cases h2 : c.length ≤ 64
     ·rw [decide_eq_true (by omega), cond_true, decide_eq_true h2, findInstr n c h2 hn, Option.bind_some]
      simp
     ·rw [decide_eq_false (by omega), cond_false, decide_eq_false h2]
      rfl
    ·rw [decide_eq_false (by omega), cond_false, decide_eq_false h1]
     rfl
theorem findFunc (n : Nat) (l : List FnD) (recs : Int) (hl : l.length ≤ 64) (hn : 100 ≤ n) : qv n l recs = some (l.any (fun t => !fitF recs t), recs) := by
 unfold qv qax
 have h := zab (B := fun s => qax_B0 n s.1.1 s.1.2.1 s.1.2.2 s.2) (xs := l) (mk := fun i => ((l, (lenI l, (i : Int))), recs)) (p := fun t => !fitF recs t) (found := fun i x => Sum.inl ((i : Int), recs)) (e := Sum.inr recs)
  (fun i x hx => ?_) ?_ l.length 0 n (by omega) (by omega)
 ·rw [List.drop_zero] at h
  rcases h with ⟨h1, k, x, _, _, h2⟩ | ⟨h1, h2⟩
  ·rw [show qax_W0 n ((l, (lenI l, 0)), recs) = some (Sum.inl ((k : Int), recs)) from h2, h1]
   show some (decide ((k : Int) ≥ 0), recs) = _
   rw [decide_eq_true (by omega)]
  ·rw [show qax_W0 n ((l, (lenI l, 0)), recs) = some (Sum.inr recs) from h2, h1]
   rfl
 ·have hi := zj hx
  show qax_B0 n l (lenI l) (i : Int) recs = _
  unfold qax_B0 qbi
  rw [zd, decide_eq_true (by omega), cond_true, zo, hx, Option.bind_some, znT n x recs hn, Option.bind_some, Option.bind_some, zk (by omega)]
  cases fitF recs x <;> rfl
 ·show qax_B0 n l (lenI l) (l.length : Int) recs = _
  unfold qax_B0
  rw [zd, decide_eq_false (by omega), cond_false]
def fitI (recs : Int) (i : ImD) : Bool := goodsV recs 4 i.1 && goodV recs (i.2.1, i.2.2)
theorem findImport (n : Nat) (l : List ImD) (recs : Int) (hl : l.length ≤ 64) (hn : 100 ≤ n) : qg n l recs = some (l.any (fun t => !fitI recs t), recs) := by
 unfold qg qaa
 have h := zab (B := fun s => qaa_B0 n s.1.1 s.1.2.1 s.1.2.2 s.2) (xs := l) (mk := fun i => ((l, (lenI l, (i : Int))), recs)) (p := fun t => !fitI recs t) (found := fun i x => Sum.inl ((i : Int), recs)) (e := Sum.inr recs)
  (fun i x hx => ?_) ?_ l.length 0 n (by omega) (by omega)
 ·rw [List.drop_zero] at h
  rcases h with ⟨h1, k, x, _, _, h2⟩ | ⟨h1, h2⟩
  ·rw [show qaa_W0 n ((l, (lenI l, 0)), recs) = some (Sum.inl ((k : Int), recs)) from h2, h1]
   show some (decide ((k : Int) ≥ 0), recs) = _
   rw [decide_eq_true (by omega)]
  ·rw [show qaa_W0 n ((l, (lenI l, 0)), recs) = some (Sum.inr recs) from h2, h1]
   rfl
 ·have hi := zj hx
  show qaa_B0 n l (lenI l) (i : Int) recs = _
  unfold qaa_B0 qbp
  rw [zd, decide_eq_true (by omega), cond_true, zo, hx, Option.bind_some, zdC n x.1 recs 4 (by omega) hn, Option.bind_some, zk (by omega)]
  unfold fitI
  cases goodsV recs 4 x.1 with
  | false => rfl
  | true =>
   rw [Bool.not_true, cond_false, zeV n (x.2.1, x.2.2) recs, Option.bind_some, Option.bind_some]
   cases goodV recs (x.2.1, x.2.2) <;> rfl
 ·show qaa_B0 n l (lenI l) (l.length : Int) recs = _
  unfold qaa_B0
  rw [zd, decide_eq_false (by omega), cond_false]
theorem findString (n : Nat) (l : List ByteArray) (hl : l.length ≤ 64) (hn : 100 ≤ n) : qe n l = some (l.any (fun s => decide (s.size > 32))) := by
 unfold qe qad
 have h := zab (B := fun s => qad_B0 n s.1 s.2.1 s.2.2) (xs := l) (mk := fun i => (l, (lenI l, (i : Int)))) (p := fun s => decide (s.size > 32)) (found := fun i x => Sum.inl (i : Int)) (e := Sum.inr ())
  (fun i x hx => ?_) ?_ l.length 0 n (by omega) (by omega)
 ·rw [List.drop_zero] at h
  rcases h with ⟨h1, k, x, _, _, h2⟩ | ⟨h1, h2⟩
  ·rw [show qad_W0 n (l, (lenI l, 0)) = some (Sum.inl (k : Int)) from h2, h1]
   show some (decide ((k : Int) ≥ 0)) = _
   rw [decide_eq_true (by omega)]
  ·rw [show qad_W0 n (l, (lenI l, 0)) = some (Sum.inr ()) from h2, h1]
   rfl
 ·have hi := zj hx
  show qad_B0 n l (lenI l) (i : Int) = _
  unfold qad_B0 qbk
  rw [zd, decide_eq_true (by omega), cond_true, zo, hx, Option.bind_some, Option.bind_some, zk (by omega)]
  have : decide (lenS x > 32) = decide (x.size > 32) := by
   unfold lenS
   by_cases h : x.size > 32
   ·rw [decide_eq_true h, decide_eq_true (by omega)]
   ·rw [decide_eq_false h, decide_eq_false (by omega)]
  rw [this]
  cases decide (x.size > 32) <;> rfl
 ·show qad_B0 n l (lenI l) (l.length : Int) = _
  unfold qad_B0
  rw [zd, decide_eq_false (by omega), cond_false]
structure ModD where
 recs : List (List TyD)
 funcs : List FnD
 imps : List ImD
 ints : List Int
 texts : List ByteArray
def fitsV (m : ModD) : Bool :=
 decide (m.recs.length ≤ 8) && (m.recs.all (goodsV m.recs.length 6) && (decide (1 ≤ m.funcs.length) && (decide (m.funcs.length ≤ 8) && (m.funcs.all (fitF m.recs.length) &&
  (decide (m.imps.length ≤ 8) && (m.imps.all (fitI m.recs.length) && (decide (m.ints.length ≤ 16) && (decide (m.texts.length ≤ 16) && m.texts.all fun s => decide (s.size ≤ 32)))))))))
theorem zow (l : List ByteArray) : (!l.any fun s => decide (s.size > 32)) = l.all fun s => decide (s.size ≤ 32) := by
 rw [← zdp]
 congr 2
 funext s
 by_cases h : s.size > 32
 ·rw [decide_eq_true h, decide_eq_false (by omega)]; rfl
 ·rw [decide_eq_false h, decide_eq_true (by omega)]; rfl
theorem zoe (n : Nat) (m : ModD) (hn : 100 ≤ n) : qbt n m.recs m.funcs m.imps m.ints m.texts = some (fitsV m) := by
 unfold qbt fitsV
 rw [zd m.recs, zd m.funcs, zd m.imps, zd m.ints, zd m.texts]
 by_cases h1 : m.recs.length ≤ 8
 ·rw [decide_eq_true (by omega : (m.recs.length : Int) ≤ 8), cond_true, decide_eq_true h1, findTypes n m.recs _ (by omega) hn, Option.bind_some, zdp, Bool.true_and]
  cases m.recs.all (goodsV m.recs.length 6) with
  | false => rfl
  | true =>
   rw [cond_true, Bool.true_and]
   by_cases h2 : 1 ≤ m.funcs.length
   ·rw [decide_eq_true (by omega : (m.funcs.length : Int) ≥ 1), cond_true, decide_eq_true h2, Bool.true_and]
    by_cases h3 : m.funcs.length ≤ 8
    ·rw [decide_eq_true (by omega : (m.funcs.length : Int) ≤ 8), cond_true, decide_eq_true h3, findFunc n m.funcs _ (by omega) hn, Option.bind_some, zdp, Bool.true_and]
     cases m.funcs.all (fitF m.recs.length) with
     | false => rfl
     | true =>
      rw [cond_true, Bool.true_and]
      by_cases h4 : m.imps.length ≤ 8
      ·rw [decide_eq_true (by omega : (m.imps.length : Int) ≤ 8), cond_true, decide_eq_true h4, findImport n m.imps _ (by omega) hn, Option.bind_some, zdp, Bool.true_and]
       cases m.imps.all (fitI m.recs.length) with
       | false => rfl
       | true =>
        rw [cond_true, Bool.true_and]
        by_cases h5 : m.ints.length ≤ 16
        ·rw [decide_eq_true (by omega : (m.ints.length : Int) ≤ 16), cond_true, decide_eq_true h5, Bool.true_and]
         by_cases h6 : m.texts.length ≤ 16
         ·rw [decide_eq_true (by omega : (m.texts.length : Int) ≤ 16), cond_true, decide_eq_true h6, Bool.true_and, findString n m.texts (by omega) hn, Option.bind_some, zow]
         ·rw [decide_eq_false (by omega : ¬ (m.texts.length : Int) ≤ 16), cond_false, decide_eq_false h6]; rfl
        ·rw [decide_eq_false (by omega : ¬ (m.ints.length : Int) ≤ 16), cond_false, decide_eq_false h5]; rfl
      ·rw [decide_eq_false (by omega : ¬ (m.imps.length : Int) ≤ 8), cond_false, decide_eq_false h4]; rfl
    ·rw [decide_eq_false (by omega : ¬ (m.funcs.length : Int) ≤ 8), cond_false, decide_eq_false h3]; rfl
   ·rw [decide_eq_false (by omega : ¬ (m.funcs.length : Int) ≥ 1), cond_false, decide_eq_false h2]; rfl
 ·rw [decide_eq_false (by omega : ¬ (m.recs.length : Int) ≤ 8), cond_false, decide_eq_false h1]; rfl
end Sx
end
section
/- The bytes of a module, as the program writes them. -/
set_option linter.unusedVariables false
set_option linter.unusedSimpArgs false
namespace Sx
open Go Go.Ab
def okTs (l : List TyD) : Prop := ∀ t ∈ l, okT t
structure OkM (m : ModD) : Prop where
 recs : ∀ l ∈ m.recs, okTs l
 funcs : ∀ f ∈ m.funcs, okTs f.1 ∧ okT (f.2.1, f.2.2.1) ∧ okTs f.2.2.2.1
 imps : ∀ i ∈ m.imps, okTs i.1 ∧ okT (i.2.1, i.2.2)
 ints : ∀ v ∈ m.ints, 0 ≤ v ∧ v ≤ 18446744073709551615
def typesV (l : List TyD) : List Int := varN l.length ++ l.flatMap typV
theorem zaf (l : List TyD) : (typesV l).length ≤ 11 + 22 * l.length := by
 have := zg l.length
 have := zy typV 22 l fun t _ => zah t
 rw [typesV, List.length_append]; omega
def fncV (f : FnD) : List Int := typesV f.1 ++ typV (f.2.1, f.2.2.1) ++ typesV f.2.2.2.1 ++ varN f.2.2.2.2.length ++ f.2.2.2.2.flatMap putV
def impV (i : ImD) : List Int := typesV i.1 ++ typV (i.2.1, i.2.2)
def txtV (s : ByteArray) : List Int := varN s.size ++ bytesInts s
def listV {α : Type} (f : α → List Int) (l : List α) : List Int := varN l.length ++ l.flatMap f
def joinV (l : List (List Int)) : List Int := listV (fun p => varN p.length ++ p) l
def encV (m : ModD) : List Int := joinV [listV typesV m.recs, listV fncV m.funcs, listV impV m.imps, listV (fun v => fixN 8 v.toNat) m.ints, listV txtV m.texts]
theorem zdf (n k : Nat) (hk : k ≤ 4294967000) (hn : 20 ≤ n) : qo n (k : Int) = some (varN k) := by
 unfold qo
 have := zg k
 rw [zA (by omega) (by omega), qcq_eq n k (by omega) hn, Option.bind_some, zn (by omega), cond_true]
theorem zfh (n k : Nat) (m1 : List Int) (hk : k ≤ 4294967000) (hm : m1.length ≤ 4294900000) (hn : 20 ≤ n) : qc n (k : Int) m1 = some (m1 ++ varN k) := by
 unfold qc
 have := zg k
 rw [zA (by omega) (by omega), qcq_eq n k (by omega) hn, Option.bind_some, zn (by rw [List.length_append]; omega), cond_true]
theorem zdr (n : Nat) (l : List TyD) (m1 : List Int) (ho : okTs l) (hl : l.length ≤ 100) (hm : m1.length ≤ 4294000000) (hn : 200 ≤ n) : qm n l m1 = some (m1 ++ typesV l) := by
 unfold qm
 have hv := zg l.length
 rw [zd, zfh n _ m1 (by omega) (by omega) (by omega), Option.bind_some]
 have h := zP (B := fun s => qm_B0 n s.1.1 s.1.2.1 s.1.2.2 s.2) (xs := l) (mk := fun i a => ((l, ((l.length : Int), (i : Int))), a)) (f := typV) (e := id) (c := 22) (m0 := m1 ++ varN l.length) (cap := 4294967296)
  (fun x _ => zah x) (by rw [List.length_append]; omega) (fun i a x hx hmem ha => ?_) (fun a => ?_) (n := n) (by omega)
 ·rw [show qm_W0 n ((l, ((l.length : Int), 0)), m1 ++ varN l.length) = _ from h, Option.bind_some, id, List.append_assoc]
  rfl
 ·have hi := zj hx
  show qm_B0 n l (l.length : Int) (i : Int) a = _
  unfold qm_B0
  rw [decide_eq_true (by omega), cond_true, zo, hx, Option.bind_some, qcm_eq n x (ho x hmem) (by omega), Option.bind_some, zn (by rw [List.length_append]; omega), cond_true, zk (by omega)]
 ·show qm_B0 n l (l.length : Int) (l.length : Int) a = _
  unfold qm_B0
  rw [decide_eq_false (by omega), cond_false]; rfl
theorem zaG {recs most : Int} {l : List TyD} (h : goodsV recs most l = true) : (l.length : Int) ≤ most := by
 simp only [goodsV, Bool.and_eq_true, decide_eq_true_eq] at h
 exact h.1
theorem zdW (n : Nat) (m : ModD) (ho : OkM m) (hf : fitsV m = true) (hn : 200 ≤ n) : qaq n m.recs m.funcs m.imps m.ints m.texts = some (listV typesV m.recs) ∧ (listV typesV m.recs).length ≤ 2000 := by
 simp only [fitsV, Bool.and_eq_true, decide_eq_true_eq, List.all_eq_true] at hf
 obtain ⟨h1, h2, _⟩ := hf
 have hc : ∀ x ∈ m.recs, (typesV x).length ≤ 143 := fun x hx => by
  have := zaf x
  have := zaG (h2 x hx)
  omega
 have hv := zg m.recs.length
 refine ⟨?_, by have := zy typesV 143 m.recs hc; rw [listV, List.length_append]; omega⟩
 unfold qaq
 rw [zd, zdf n _ (by omega) (by omega), Option.bind_some]
 have h := zP (B := fun s => qaq_B0 n s.1.1 s.1.2.1 s.1.2.2 s.2) (xs := m.recs) (mk := fun i a => ((m.recs, ((m.recs.length : Int), (i : Int))), a)) (f := typesV) (e := id) (c := 143) (m0 := varN m.recs.length) (cap := 4000)
  hc (by omega) (fun i a x hx hmem ha => ?_) (fun a => ?_) (n := n) (by omega)
 ·rw [show qaq_W0 n ((m.recs, ((m.recs.length : Int), 0)), varN m.recs.length) = _ from h, Option.bind_some]
  rfl
 ·have hi := zj hx
  show qaq_B0 n m.recs (m.recs.length : Int) (i : Int) a = _
  unfold qaq_B0
  have := zaG (h2 x hmem)
  rw [decide_eq_true (by omega), cond_true, zo, hx, Option.bind_some, zdr n x a (ho.recs x hmem) (by omega) (by omega) hn, Option.bind_some, zk (by omega)]
 ·show qaq_B0 n m.recs (m.recs.length : Int) (m.recs.length : Int) a = _
  unfold qaq_B0
  rw [decide_eq_false (by omega), cond_false]; rfl
theorem zdd {recs : Int} {f : FnD} (h : fitF recs f = true) : f.1.length ≤ 4 ∧ f.2.2.2.1.length ≤ 8 ∧ 1 ≤ f.2.2.2.2.length ∧ f.2.2.2.2.length ≤ 64 ∧ (fncV f).length ≤ 1900 := by
 simp only [fitF, Bool.and_eq_true, decide_eq_true_eq] at h
 obtain ⟨h1, _, h3, h4, h5, _⟩ := h
 have h1 := zaG h1
 have h3 := zaG h3
 have := zaf f.1
 have := zaf f.2.2.2.1
 have := zah (f.2.1, f.2.2.1)
 have := zg f.2.2.2.2.length
 have := zy putV 23 f.2.2.2.2 fun i _ => zda i
 refine ⟨by omega, by omega, h4, h5, ?_⟩
 simp only [fncV, List.length_append]
 omega
theorem zcx (n : Nat) (m : ModD) (ho : OkM m) (hf : fitsV m = true) (hn : 200 ≤ n) : qz n m.recs m.funcs m.imps m.ints m.texts = some (listV fncV m.funcs) ∧ (listV fncV m.funcs).length ≤ 20000 := by
 simp only [fitsV, Bool.and_eq_true, decide_eq_true_eq, List.all_eq_true] at hf
 obtain ⟨_, _, h0, h1, h2, _⟩ := hf
 have hc : ∀ x ∈ m.funcs, (fncV x).length ≤ 1900 := fun x hx => (zdd (h2 x hx)).2.2.2.2
 have hv := zg m.funcs.length
 refine ⟨?_, by have := zy fncV 1900 m.funcs hc; rw [listV, List.length_append]; omega⟩
 unfold qz
 rw [zd, zdf n _ (by omega) (by omega), Option.bind_some]
 have h := zP (B := fun s => qz_B0 n s.1.1 s.1.2.1 s.1.2.2 s.2) (xs := m.funcs) (mk := fun i a => ((m.funcs, ((m.funcs.length : Int), (i : Int))), a)) (f := fncV) (e := id) (c := 1900) (m0 := varN m.funcs.length) (cap := 40000)
  hc (by omega) (fun i a x hx hmem ha => ?_) (fun a => ?_) (n := n) (by omega)
 ·rw [show qz_W0 n ((m.funcs, ((m.funcs.length : Int), 0)), varN m.funcs.length) = _ from h, Option.bind_some]
  rfl
 ·have hi := zj hx
  obtain ⟨l1, l2, l3, l4, _⟩ := zdd (h2 x hmem)
  obtain ⟨o1, o2, o3⟩ := ho.funcs x hmem
  obtain ⟨ar, k, nn, lo, co⟩ := x
  have t1 := zaf ar
  have t2 := zaf lo
  have t3 := zah (k, nn)
  have t4 := zg co.length
  have t5 := zy putV 23 co fun i _ => zda i
  simp only at l1 l2 l3 l4 o1 o2 o3
  show qz_B0 n m.funcs (m.funcs.length : Int) (i : Int) a = _
  unfold qz_B0
  rw [decide_eq_true (by omega), cond_true, zo, hx, Option.bind_some]
  simp only []
  rw [zdr n ar a o1 (by omega) (by omega) hn, Option.bind_some, qcm_eq n (k, nn) o2 (by omega), Option.bind_some, zn (by simp only [List.length_append]; omega), cond_true, zdr n lo _ o3 (by omega) (by simp only [List.length_append]; omega) hn, Option.bind_some,
   zd, zfh n _ _ (by omega) (by simp only [List.length_append]; omega) (by omega), Option.bind_some]
  have hin := zP (B := fun s => qz_B2 n s.1.1 s.1.2.1 s.1.2.2.1 s.1.2.2.2.1 s.1.2.2.2.2.1 s.1.2.2.2.2.2 s.2) (xs := co) (mk := fun j b => ((m.funcs, ((m.funcs.length : Int), ((i : Int), (co, ((co.length : Int), (j : Int)))))), b)) (f := putV)
   (e := fun b => ((m.funcs, ((m.funcs.length : Int), (i : Int))), b)) (c := 23) (m0 := a ++ typesV ar ++ typV (k, nn) ++ typesV lo ++ varN co.length) (cap := 4294967296) (fun y _ => zda y) (by simp only [List.length_append]; omega) (fun j b y hy hmy hb => ?_) (fun b => ?_) (n := n) (by omega)
  ·rw [show qz_W2 n ((m.funcs, ((m.funcs.length : Int), ((i : Int), (co, ((co.length : Int), 0))))), a ++ typesV ar ++ typV (k, nn) ++ typesV lo ++ varN co.length) = _ from hin, Option.bind_some]
   simp only []
   rw [zk (by omega)]
   simp only [fncV, List.append_assoc]
  ·have hj := zj hy
   show qz_B2 n m.funcs (m.funcs.length : Int) (i : Int) co (co.length : Int) (j : Int) b = _
   unfold qz_B2
   rw [decide_eq_true (by omega), cond_true, zo, hy, Option.bind_some, qco_eq n y (by omega), Option.bind_some, zn (by rw [List.length_append]; omega), cond_true, zk (by omega)]
  ·show qz_B2 n m.funcs (m.funcs.length : Int) (i : Int) co (co.length : Int) (co.length : Int) b = _
   unfold qz_B2
   rw [decide_eq_false (by omega), cond_false]
 ·show qz_B0 n m.funcs (m.funcs.length : Int) (m.funcs.length : Int) a = _
  unfold qz_B0
  rw [decide_eq_false (by omega), cond_false]; rfl
theorem zhf {recs : Int} {f : ImD} (h : fitI recs f = true) : f.1.length ≤ 4 ∧ (impV f).length ≤ 130 := by
 simp only [fitI, Bool.and_eq_true] at h
 have h1 := zaG h.1
 have := zaf f.1
 have := zah (f.2.1, f.2.2)
 refine ⟨by omega, ?_⟩
 rw [impV, List.length_append]; omega
theorem zdT (n : Nat) (m : ModD) (ho : OkM m) (hf : fitsV m = true) (hn : 200 ≤ n) : qao n m.recs m.funcs m.imps m.ints m.texts = some (listV impV m.imps) ∧ (listV impV m.imps).length ≤ 2000 := by
 simp only [fitsV, Bool.and_eq_true, decide_eq_true_eq, List.all_eq_true] at hf
 obtain ⟨_, _, _, _, _, h1, h2, _⟩ := hf
 have hc : ∀ x ∈ m.imps, (impV x).length ≤ 130 := fun x hx => (zhf (h2 x hx)).2
 have hv := zg m.imps.length
 refine ⟨?_, by have := zy impV 130 m.imps hc; rw [listV, List.length_append]; omega⟩
 unfold qao
 rw [zd, zdf n _ (by omega) (by omega), Option.bind_some]
 have h := zP (B := fun s => qao_B0 n s.1.1 s.1.2.1 s.1.2.2 s.2) (xs := m.imps) (mk := fun i a => ((m.imps, ((m.imps.length : Int), (i : Int))), a)) (f := impV) (e := id) (c := 130) (m0 := varN m.imps.length) (cap := 40000)
  hc (by omega) (fun i a x hx hmem ha => ?_) (fun a => ?_) (n := n) (by omega)
 ·rw [show qao_W0 n ((m.imps, ((m.imps.length : Int), 0)), varN m.imps.length) = _ from h, Option.bind_some]
  rfl
 ·have hi := zj hx
  obtain ⟨l1, _⟩ := zhf (h2 x hmem)
  obtain ⟨o1, o2⟩ := ho.imps x hmem
  obtain ⟨ar, k, nn⟩ := x
  have t1 := zaf ar
  have t3 := zah (k, nn)
  simp only at l1 o1 o2
  show qao_B0 n m.imps (m.imps.length : Int) (i : Int) a = _
  unfold qao_B0
  rw [decide_eq_true (by omega), cond_true, zo, hx, Option.bind_some]
  simp only []
  rw [zdr n ar a o1 (by omega) (by omega) hn, Option.bind_some, qcm_eq n (k, nn) o2 (by omega), Option.bind_some, zn (by simp only [List.length_append]; omega), cond_true, zk (by omega)]
  simp only [impV, List.append_assoc]
 ·show qao_B0 n m.imps (m.imps.length : Int) (m.imps.length : Int) a = _
  unfold qao_B0
  rw [decide_eq_false (by omega), cond_false]; rfl
theorem znL (n : Nat) (v : Nat) (hv : v < 18446744073709551616) (hn : 20 ≤ n) : qck n (v : Int) 8 = some (fixN 8 v) := by
 have h := zP (B := fun s => qck_B0 n s.1.1 s.1.2.1 s.1.2.2 s.2) (xs := List.range 8) (mk := fun i a => (((v : Int), ((8 : Int), (i : Int))), a)) (f := fun j => [((v / 256 ^ j % 256 : Nat) : Int)]) (e := id) (c := 1) (m0 := []) (cap := 100)
  (fun x _ => by simp) (by simp) (fun i a x hx hmem ha => ?_) (fun a => ?_) (n := n) (by simp; omega)
 ·unfold qck
  rw [show qck_W0 n (((v : Int), ((minI (maxI 8 0) 8), 0)), []) = _ from h, Option.bind_some]
  have e : ∀ l : List Nat, l.flatMap (fun j => [((v / 256 ^ j % 256 : Nat) : Int)]) = l.map fun j => ((v / 256 ^ j % 256 : Nat) : Int) := by
   intro l
   induction l with
   | nil => rfl
   | cons x l ih => rw [List.flatMap_cons, ih]; rfl
  rw [e]; rfl
 ·have hi := zj hx
  rw [List.length_range] at hi
  rw [List.getElem?_range hi] at hx
  obtain rfl := Option.some.inj hx
  show qck_B0 n (v : Int) 8 (i : Int) a = _
  unfold qck_B0
  have hb : cvtI .u8 (shrI .u64 (v : Int) (mulI .i64 8 (i : Int))) = ((v / 256 ^ i % 256 : Nat) : Int) := by
   rw [zjW (by omega) (by omega), zga]
   show ((v : Int).fdiv (2 ^ (min (8 * (i : Int)).toNat 64))) % 256 = _
   rw [show min (8 * (i : Int)).toNat 64 = 8 * i by omega, show ((2 : Int) ^ (8 * i)) = ((256 ^ i : Nat) : Int) by rw [show (256 : Nat) = 2 ^ 8 from rfl, ← Nat.pow_mul]; simp,
    Int.fdiv_eq_ediv_of_nonneg _ (Int.natCast_nonneg _), ← Int.natCast_ediv]
   omega
  rw [decide_eq_true (by omega), cond_true, hb, zjW (by omega) (by omega), decide_eq_true (by omega), cond_true, zn (by simp at ha ⊢; omega), cond_true, zk (by omega)]
 ·show qck_B0 n (v : Int) 8 8 a = _
  rfl
theorem zem (n : Nat) (m : ModD) (ho : OkM m) (hf : fitsV m = true) (hn : 200 ≤ n) : qas n m.recs m.funcs m.imps m.ints m.texts = some (listV (fun v => fixN 8 v.toNat) m.ints) ∧ (listV (fun v : Int => fixN 8 v.toNat) m.ints).length ≤ 2000 := by
 simp only [fitsV, Bool.and_eq_true, decide_eq_true_eq, List.all_eq_true] at hf
 obtain ⟨_, _, _, _, _, _, _, h1, _⟩ := hf
 have hc : ∀ x ∈ m.ints, (fixN 8 x.toNat).length ≤ 8 := fun x hx => by rw [zbF]; omega
 have hv := zg m.ints.length
 refine ⟨?_, by have := zy (fun v : Int => fixN 8 v.toNat) 8 m.ints hc; rw [listV, List.length_append]; omega⟩
 unfold qas
 rw [zd, zdf n _ (by omega) (by omega), Option.bind_some]
 have h := zP (B := fun s => qas_B0 n s.1.1 s.1.2.1 s.1.2.2 s.2) (xs := m.ints) (mk := fun i a => ((m.ints, ((m.ints.length : Int), (i : Int))), a)) (f := fun v => fixN 8 v.toNat) (e := id) (c := 8) (m0 := varN m.ints.length) (cap := 40000)
  hc (by omega) (fun i a x hx hmem ha => ?_) (fun a => ?_) (n := n) (by omega)
 ·rw [show qas_W0 n ((m.ints, ((m.ints.length : Int), 0)), varN m.ints.length) = _ from h, Option.bind_some]
  rfl
 ·have hi := zj hx
  have hxr := ho.ints x hmem
  obtain ⟨u, rfl⟩ : ∃ u : Nat, x = (u : Int) := ⟨x.toNat, by omega⟩
  show qas_B0 n m.ints (m.ints.length : Int) (i : Int) a = _
  unfold qas_B0
  rw [zbF] at ha
  rw [decide_eq_true (by omega), cond_true, zo, hx, Option.bind_some, znL n u (by omega) (by omega), Option.bind_some, zn (by rw [List.length_append, zbF]; omega), cond_true, zk (by omega), Int.toNat_natCast]
 ·show qas_B0 n m.ints (m.ints.length : Int) (m.ints.length : Int) a = _
  unfold qas_B0
  rw [decide_eq_false (by omega), cond_false]; rfl
theorem zaZ (s : ByteArray) : (bytesInts s).length = s.size := by
 unfold bytesInts
 rw [List.length_map, Array.length_toList]; rfl
theorem zhs (n : Nat) (m : ModD) (hf : fitsV m = true) (hn : 200 ≤ n) : qbm n m.recs m.funcs m.imps m.ints m.texts = some (listV txtV m.texts) ∧ (listV txtV m.texts).length ≤ 2000 := by
 simp only [fitsV, Bool.and_eq_true, decide_eq_true_eq, List.all_eq_true] at hf
 obtain ⟨_, _, _, _, _, _, _, _, h1, h2⟩ := hf
 have hc : ∀ x ∈ m.texts, (txtV x).length ≤ 43 := fun x hx => by
  have := zg x.size
  have := h2 x hx
  rw [txtV, List.length_append, zaZ]; omega
 have hv := zg m.texts.length
 refine ⟨?_, by have := zy txtV 43 m.texts hc; rw [listV, List.length_append]; omega⟩
 unfold qbm
 rw [zd, zdf n _ (by omega) (by omega), Option.bind_some]
 have h := zP (B := fun s => qbm_B0 n s.1.1 s.1.2.1 s.1.2.2 s.2) (xs := m.texts) (mk := fun i a => ((m.texts, ((m.texts.length : Int), (i : Int))), a)) (f := txtV) (e := id) (c := 43) (m0 := varN m.texts.length) (cap := 40000)
  hc (by omega) (fun i a x hx hmem ha => ?_) (fun a => ?_) (n := n) (by omega)
 ·rw [show qbm_W0 n ((m.texts, ((m.texts.length : Int), 0)), varN m.texts.length) = _ from h, Option.bind_some]
  rfl
 ·have hi := zj hx
  have hs := h2 x hmem
  have hvx := zg x.size
  show qbm_B0 n m.texts (m.texts.length : Int) (i : Int) a = _
  unfold qbm_B0
  rw [decide_eq_true (by omega), cond_true, zo, hx, Option.bind_some, show lenS x = ((x.size : Nat) : Int) from rfl, zfh n _ a (by omega) (by omega) (by omega), Option.bind_some, zn (by simp only [List.length_append, zaZ]; omega), cond_true, zk (by omega), List.append_assoc]
  rfl
 ·show qbm_B0 n m.texts (m.texts.length : Int) (m.texts.length : Int) a = _
  unfold qbm_B0
  rw [decide_eq_false (by omega), cond_false]; rfl
theorem znR (n : Nat) (l : List (List Int)) (hl : l.length ≤ 100) (hc : ∀ x ∈ l, x.length ≤ 1000000) (hn : 200 ≤ n) : qcj n l = some (joinV l) := by
 have hv := zg l.length
 have hc2 : ∀ x ∈ l, (varN x.length ++ x).length ≤ 1000011 := fun x hx => by
  have := zg x.length
  have := hc x hx
  rw [List.length_append]; omega
 unfold qcj
 rw [zd, zA (by omega) (by omega), qcq_eq n l.length (by omega) (by omega), Option.bind_some]
 have h := zP (B := fun s => qcj_B0 n s.1.1 s.1.2.1 s.1.2.2 s.2) (xs := l) (mk := fun i a => ((l, ((l.length : Int), (i : Int))), a)) (f := fun p => varN p.length ++ p) (e := id) (c := 1000011) (m0 := varN l.length) (cap := 200000000)
  hc2 (by omega) (fun i a x hx hmem ha => ?_) (fun a => ?_) (n := n) (by omega)
 ·rw [show qcj_W0 n ((l, ((l.length : Int), 0)), varN l.length) = _ from h, Option.bind_some]
  rfl
 ·have hi := zj hx
  have hvx := zg x.length
  have hxl := hc x hmem
  rw [List.length_append] at ha
  show qcj_B0 n l (l.length : Int) (i : Int) a = _
  unfold qcj_B0
  rw [decide_eq_true (by omega), cond_true, zo, hx, Option.bind_some, zd, zA (by omega) (by omega), qcq_eq n x.length (by omega) (by omega), Option.bind_some, zn (by rw [List.length_append]; omega), cond_true, zn (by simp only [List.length_append]; omega), cond_true, zk (by omega), List.append_assoc]
 ·show qcj_B0 n l (l.length : Int) (l.length : Int) a = _
  unfold qcj_B0
  rw [decide_eq_false (by omega), cond_false]; rfl
theorem zmx (n : Nat) (m : ModD) (ho : OkM m) (hn : 200 ≤ n) : qbe n m.recs m.funcs m.imps m.ints m.texts = some (if fitsV m = true then (encV m, 0) else ([], 2)) := by
 unfold qbe
 rw [zoe n m (by omega), Option.bind_some]
 cases hf : fitsV m with
 | false => rfl
 | true =>
  obtain ⟨e1, l1⟩ := zdW n m ho hf hn
  obtain ⟨e2, l2⟩ := zcx n m ho hf hn
  obtain ⟨e3, l3⟩ := zdT n m ho hf hn
  obtain ⟨e4, l4⟩ := zem n m ho hf hn
  obtain ⟨e5, l5⟩ := zhs n m hf hn
  rw [Bool.not_true, cond_false, e1, Option.bind_some, e2, Option.bind_some, e3, Option.bind_some, e4, Option.bind_some, e5, Option.bind_some, znR n _ (by simp) ?_ hn, Option.bind_some, if_pos rfl]
  ·rfl
  ·intro x hx
   simp only [List.mem_cons, List.not_mem_nil, or_false] at hx
   rcases hx with rfl | rfl | rfl | rfl | rfl <;> omega
end Sx
end
section
/- The bytes of a module, as the document has them. -/
set_option linter.unusedVariables false
set_option linter.unusedSimpArgs false
namespace Sx
open Go Go.Ab
def typesR (recs most : Int) (l : List TyD) : List Int × Bool := if l.all (goodV recs) = true then (typesV l, decide ((l.length : Int) ≤ most)) else ([], false)
theorem zcj (recs most : Int) (l : List TyD) : (typesR recs most l).2 = goodsV recs most l := by
 unfold typesR goodsV
 cases l.all (goodV recs) <;> simp
theorem zbk {recs most : Int} {l : List TyD} (h : goodsV recs most l = true) : (typesR recs most l).1 = typesV l := by
 simp only [goodsV, Bool.and_eq_true] at h
 unfold typesR
 rw [if_pos h.2]
theorem zcl (recs most : Int) (l : List TyD) : (typesR recs most l).1.length ≤ 11 + 22 * l.length := by
 unfold typesR
 split
 ·exact zaf l
 ·simp
theorem zbO (n : Nat) (l : List TyD) (recs most : Int) (ho : okTs l) (hl : l.length ≤ 5000) (hn : 6000 ≤ n) : qbu n l recs most = some (typesR recs most l) := by
 unfold qbu
 have hv := zg l.length
 rw [zd, zA (by omega) (by omega), zO n l.length (by omega) (by omega), Option.bind_some]
 have h := zaB (B := fun s => qbu_B0 n s.1.1 s.1.2.1 s.1.2.2.1 s.1.2.2.2 s.2) (xs := l) (mk := fun i a => ((l, (recs, (most, (i : Int)))), a))
  (I := fun i a => a = varN l.length ++ (l.take i).flatMap typV ∧ (l.take i).all (goodV recs) = true)
  (Q := fun y => (l.all (goodV recs) = true ∧ y = Sum.inr ((l, most), typesV l)) ∨ (l.all (goodV recs) = false ∧ ∃ m, y = Sum.inl (([], false), m)))
  (fun i a x hx hI => ?_) (fun a hI => ?_) l.length 0 n (varN l.length) (by omega) ⟨by simp, rfl⟩ (by omega)
 ·obtain ⟨y, h1, h2⟩ := h
  rw [show qbu_W0 n ((l, (recs, (most, 0))), varN l.length) = some y from h1, Option.bind_some]
  unfold typesR
  rcases h2 with ⟨h3, rfl⟩ | ⟨h3, m, rfl⟩
  ·rw [if_pos h3]; rfl
  ·rw [if_neg (by rw [h3]; simp)]
 ·have hi := zj hx
  obtain ⟨rfl, hg⟩ := hI
  have hfl := zy typV 22 (l.take i) fun t _ => zah t
  have hxl := zah x
  have htl : (l.take i).length = i := by rw [List.length_take]; omega
  have hb : qbu_B0 n l recs most (i : Int) (varN l.length ++ (l.take i).flatMap typV) = (if goodV recs x = true then some (Sum.inl ((l, (recs, (most, ((i + 1 : Nat) : Int)))), varN l.length ++ (l.take i).flatMap typV ++ typV x)) else some (Sum.inr (Sum.inl (([], false), varN l.length ++ (l.take i).flatMap typV)))) := by
   unfold qbu_B0
   rw [zd, decide_eq_true (by omega), cond_true, zo, hx, Option.bind_some, zef, Option.bind_some, Option.bind_some, zel n x (ho x (List.mem_of_getElem? hx)) (by omega), Option.bind_some, zn (by simp only [List.length_append]; omega), zk (by omega)]
   cases goodV recs x <;> rfl
  by_cases hgx : goodV recs x = true
  ·rw [if_pos hgx] at hb
   exact .inl ⟨_, hb, by rw [zH hx, List.append_assoc], by rw [zaC hx, hg, hgx]; rfl⟩
  ·rw [if_neg hgx] at hb
   exact .inr ⟨_, hb, .inr ⟨zex hx (by simpa using hgx), _, rfl⟩⟩
 ·obtain ⟨rfl, hg⟩ := hI
  rw [List.take_length] at hg ⊢
  refine ⟨Sum.inr ((l, most), typesV l), ?_, .inl ⟨hg, rfl⟩⟩
  show qbu_B0 n l recs most (l.length : Int) _ = _
  unfold qbu_B0
  rw [zd, decide_eq_false (by omega), cond_false]; rfl
structure LightM (m : ModD) : Prop where
 n1 : m.recs.length ≤ 200
 n2 : m.funcs.length ≤ 200
 n3 : m.imps.length ≤ 200
 n4 : m.ints.length ≤ 200
 n5 : m.texts.length ≤ 200
 recs : ∀ l ∈ m.recs, l.length ≤ 3000
 funcs : ∀ f ∈ m.funcs, f.1.length ≤ 3000 ∧ f.2.2.2.1.length ≤ 3000 ∧ f.2.2.2.2.length ≤ 3000
 imps : ∀ i ∈ m.imps, i.1.length ≤ 3000
 texts : ∀ s ∈ m.texts, s.size ≤ 3000
abbrev mtup (m : ModD) : List (List TyD) × List FnD × List ImD × List Int × List ByteArray := (m.recs, (m.funcs, (m.imps, (m.ints, m.texts))))
theorem refRecs (n : Nat) (m : ModD) (ho : OkM m) (hL : LightM m) (h8 : m.recs.length ≤ 8) (hn : 6000 ≤ n) : ∃ b, qbo_W0 n (((m.recs.length : Int), (true, 0)), (mtup m, varN m.recs.length)) = some (((m.recs.length : Int), m.recs.all (goodsV m.recs.length 6)), (mtup m, b)) ∧
  (m.recs.all (goodsV m.recs.length 6) = true → b = listV typesV m.recs) := by
 have hv := zg m.recs.length
 have h := zaB (B := fun s => qbo_B0 n s.1.1 s.1.2.1 s.1.2.2 s.2.1.1 s.2.1.2.1 s.2.1.2.2.1 s.2.1.2.2.2.1 s.2.1.2.2.2.2 s.2.2) (xs := m.recs) (mk := fun i (a : Bool × List Int) => (((m.recs.length : Int), (a.1, (i : Int))), (mtup m, a.2)))
  (I := fun i a => a.1 = (m.recs.take i).all (goodsV m.recs.length 6) ∧ a.2.length ≤ 11 + 70000 * i ∧ (a.1 = true → a.2 = varN m.recs.length ++ (m.recs.take i).flatMap typesV))
  (Q := fun y => ∃ b, y = (((m.recs.length : Int), m.recs.all (goodsV m.recs.length 6)), (mtup m, b)) ∧ (m.recs.all (goodsV m.recs.length 6) = true → b = listV typesV m.recs))
  (fun i a x hx hI => ?_) (fun a hI => ?_) m.recs.length 0 n (true, varN m.recs.length) (by omega) ⟨rfl, by simp; omega, fun _ => by simp⟩ (by omega)
 ·obtain ⟨y, h1, b, rfl, h2⟩ := h
  exact ⟨b, h1, h2⟩
 ·have hi := zj hx
  have hm := List.mem_of_getElem? hx
  have hxl := hL.recs x hm
  have htl := zcl m.recs.length 6 x
  obtain ⟨h1, h2, h3⟩ := hI
  refine .inl ⟨(a.1 && (typesR m.recs.length 6 x).2, a.2 ++ (typesR m.recs.length 6 x).1), ?_, ?_, ?_, ?_⟩
  ·show qbo_B0 n (m.recs.length : Int) a.1 (i : Int) m.recs m.funcs m.imps m.ints m.texts a.2 = _
   unfold qbo_B0
   rw [decide_eq_true (by omega), cond_true, zo, hx, Option.bind_some, zbO n x _ _ (ho.recs x hm) (by omega) hn, Option.bind_some, zn (by rw [List.length_append]; omega), cond_true, zk (by omega)]
   cases a.1 <;> rfl
  ·rw [h1, zaC hx, zcj]
  ·simp only [List.length_append]; omega
  ·intro hb
   simp only [Bool.and_eq_true, zcj] at hb
   simp only []
   rw [h3 hb.1, zbk hb.2, zH hx, List.append_assoc]
 ·obtain ⟨h1, h2, h3⟩ := hI
  rw [List.take_length] at h1 h3
  refine ⟨_, ?_, a.2, rfl, fun hb => h3 (h1.trans hb)⟩
  show qbo_B0 n (m.recs.length : Int) a.1 (m.recs.length : Int) m.recs m.funcs m.imps m.ints m.texts a.2 = _
  unfold qbo_B0
  rw [decide_eq_false (by omega), cond_false, h1]
theorem refCode (n : Nat) (m : ModD) (t4 : Int) (j : Int) (b1 b2 : List Int) (f : FnD) (hc : f.2.2.2.2.length ≤ 64) (hb2 : b2.length ≤ 4000000) (hn : 6000 ≤ n) :
  ∃ y, qbo_W4 n ((t4, (true, (j, 0))), (mtup m, (b1, (b2, f)))) = some y ∧
   ((f.2.2.2.2.any badI = false ∧ y = Sum.inr ((t4, (true, j)), (mtup m, (b1, (b2 ++ f.2.2.2.2.flatMap putV, f))))) ∨ (f.2.2.2.2.any badI = true ∧ ∃ z, y = Sum.inl (([], false), z))) := by
 refine zaB (B := fun s => qbo_B4 n s.1.1 s.1.2.1 s.1.2.2.1 s.1.2.2.2 s.2.1.1 s.2.1.2.1 s.2.1.2.2.1 s.2.1.2.2.2.1 s.2.1.2.2.2.2 s.2.2.1 s.2.2.2.1 s.2.2.2.2.1 s.2.2.2.2.2.1 s.2.2.2.2.2.2.1 s.2.2.2.2.2.2.2.1 s.2.2.2.2.2.2.2.2) (xs := f.2.2.2.2)
  (mk := fun i (a : List Int) => ((t4, (true, (j, (i : Int)))), (mtup m, (b1, (a, f))))) (I := fun i a => a = b2 ++ (f.2.2.2.2.take i).flatMap putV ∧ (f.2.2.2.2.take i).any badI = false) (fun i a x hx hI => ?_) (fun a hI => ?_) f.2.2.2.2.length 0 n b2 (by omega) ⟨by simp, rfl⟩ (by omega)
 ·have hi := zj hx
  obtain ⟨rfl, hg⟩ := hI
  have hfl := zy putV 23 (f.2.2.2.2.take i) fun t _ => zda t
  have hxl := zda x
  have htl : (f.2.2.2.2.take i).length = i := by rw [List.length_take]; omega
  have hz : (((putV x).length : Int) == 0) = badI x := by
   rw [← zkc]
   cases (putV x).length <;> rfl
  have hb : qbo_B4 n t4 true j (i : Int) m.recs m.funcs m.imps m.ints m.texts b1 (b2 ++ (f.2.2.2.2.take i).flatMap putV) f.1 f.2.1 f.2.2.1 f.2.2.2.1 f.2.2.2.2 =
    (if badI x = true then some (Sum.inr (Sum.inl (([], false), (mtup m, (b1, (b2 ++ (f.2.2.2.2.take i).flatMap putV, f)))))) else some (Sum.inl ((t4, (true, (j, ((i + 1 : Nat) : Int)))), (mtup m, (b1, (b2 ++ (f.2.2.2.2.take i).flatMap putV ++ putV x, f)))))) := by
   unfold qbo_B4
   rw [zd, decide_eq_true (by omega), cond_true, zo, hx, Option.bind_some, zkF n x (by omega), Option.bind_some, zd, hz, zn (by simp only [List.length_append]; omega), zk (by omega)]
   cases badI x <;> rfl
  by_cases hgx : badI x = true
  ·rw [if_pos hgx] at hb
   exact .inr ⟨_, hb, .inr ⟨List.any_eq_true.2 ⟨x, List.mem_of_getElem? hx, hgx⟩, _, rfl⟩⟩
  ·rw [if_neg hgx] at hb
   refine .inl ⟨_, hb, by rw [zH hx, List.append_assoc], ?_⟩
   rw [List.take_add_one, hx, List.any_append, hg]
   simpa using hgx
 ·obtain ⟨rfl, hg⟩ := hI
  rw [List.take_length] at hg ⊢
  refine ⟨_, ?_, .inl ⟨hg, rfl⟩⟩
  show qbo_B4 n t4 true j (f.2.2.2.2.length : Int) m.recs m.funcs m.imps m.ints m.texts b1 (b2 ++ f.2.2.2.2.flatMap putV) f.1 f.2.1 f.2.2.1 f.2.2.2.1 f.2.2.2.2 = _
  unfold qbo_B4
  rw [zd, decide_eq_false (by omega), cond_false]
theorem refFuncs (n : Nat) (m : ModD) (ho : OkM m) (hL : LightM m) (h1 : 1 ≤ m.funcs.length) (h8 : m.funcs.length ≤ 8) (ok : Bool) (b1 : List Int) (hn : 6000 ≤ n) :
  ∃ y, qbo_W2 n (((m.recs.length : Int), (ok, 0)), (mtup m, (b1, varN m.funcs.length))) = some y ∧
   (((ok && m.funcs.all (fitF m.recs.length)) = true ∧ y = Sum.inr (((m.recs.length : Int), true), (mtup m, (b1, listV fncV m.funcs)))) ∨ ((ok && m.funcs.all (fitF m.recs.length)) = false ∧ ∃ z, y = Sum.inl (([], false), z))) := by
 have hv := zg m.funcs.length
 refine zaB (B := fun s => qbo_B2 n s.1.1 s.1.2.1 s.1.2.2 s.2.1.1 s.2.1.2.1 s.2.1.2.2.1 s.2.1.2.2.2.1 s.2.1.2.2.2.2 s.2.2.1 s.2.2.2) (xs := m.funcs) (mk := fun i (a : Bool × List Int) => (((m.recs.length : Int), (a.1, (i : Int))), (mtup m, (b1, a.2))))
  (I := fun i a => (i = 0 → a.1 = ok) ∧ (0 < i → a.1 = true ∧ ok = true) ∧ (m.funcs.take i).all (fitF m.recs.length) = true ∧ a.2 = varN m.funcs.length ++ (m.funcs.take i).flatMap fncV)
  (fun i a x hx hI => ?_) (fun a hI => ?_) m.funcs.length 0 n (ok, varN m.funcs.length) (by omega) ⟨fun _ => rfl, fun h => by omega, rfl, by simp⟩ (by omega)
 ·have hi := zj hx
  have hm := List.mem_of_getElem? hx
  obtain ⟨l1, l2, l3⟩ := hL.funcs x hm
  obtain ⟨o1, o2, o3⟩ := ho.funcs x hm
  obtain ⟨ia, ib, hg, hbytes⟩ := hI
  have htl : (m.funcs.take i).length = i := by rw [List.length_take]; omega
  have hfl := zy fncV 1900 (m.funcs.take i) fun t ht => (zdd (List.all_eq_true.1 hg t ht)).2.2.2.2
  have hal : a.2.length ≤ 20000 := by rw [hbytes, List.length_append]; omega
  have hok : a.1 = ok := by
   rcases Nat.eq_zero_or_pos i with h | h
   ·exact ia h
   ·obtain ⟨e1, e2⟩ := ib h; rw [e1, e2]
  have exit : (a.1 && fitF m.recs.length x) = false → (ok && m.funcs.all (fitF m.recs.length)) = false := by
   intro h
   rw [hok] at h
   cases ok with
   | false => rfl
   | true =>
    have h : fitF m.recs.length x = false := h
    rw [Bool.true_and]; exact zex hx h
  obtain ⟨ar, k, nn, lo, co⟩ := x
  simp only at l1 l2 l3 o1 o2 o3
  have t1 := zcl m.recs.length 4 ar
  have t2 := zcl m.recs.length (8 - (ar.length : Int)) lo
  have t3 := zah (k, nn)
  have t4 := zg co.length
  have hstep : ∀ s, qbo_B2 n (m.recs.length : Int) a.1 (i : Int) m.recs m.funcs m.imps m.ints m.texts b1 a.2 = s → (fun s => qbo_B2 n s.1.1 s.1.2.1 s.1.2.2 s.2.1.1 s.2.1.2.1 s.2.1.2.2.1 s.2.1.2.2.2.1 s.2.1.2.2.2.2 s.2.2.1 s.2.2.2) (((m.recs.length : Int), (a.1, (i : Int))), (mtup m, (b1, a.2))) = s := fun s h => h
  unfold qbo_B2 at hstep
  rw [zd, decide_eq_true (by omega), cond_true, zo, hx, Option.bind_some] at hstep
  simp only [] at hstep
  rw [zbO n ar _ _ o1 (by omega) hn, Option.bind_some, zd, zkZ (by omega) (by omega), zbO n lo _ _ o3 (by omega) hn, Option.bind_some, zcj, zcj, zef n (k, nn), Option.bind_some, zd] at hstep
  have hfit : fitF m.recs.length (ar, k, nn, lo, co) = (goodsV m.recs.length 4 ar && (goodV m.recs.length (k, nn) && (goodsV m.recs.length (8 - (ar.length : Int)) lo && (decide (1 ≤ co.length) && (decide (co.length ≤ 64) && !co.any badI))))) := rfl
  rw [hfit] at exit
  cases ha : a.1 with
  | false =>
   rw [ha] at hstep exit
   exact .inr ⟨_, hstep _ rfl, .inr ⟨exit rfl, _, rfl⟩⟩
  | true =>
   rw [ha] at hstep exit
   cases g1 : goodsV m.recs.length 4 ar with
   | false =>
    rw [g1] at hstep exit
    exact .inr ⟨_, hstep _ rfl, .inr ⟨exit rfl, _, rfl⟩⟩
   | true =>
    rw [g1] at hstep exit
    cases g2 : goodsV m.recs.length (8 - (ar.length : Int)) lo with
    | false =>
     rw [g2] at hstep exit
     exact .inr ⟨_, hstep _ rfl, .inr ⟨exit (by simp), _, rfl⟩⟩
    | true =>
     rw [g2] at hstep exit
     cases g3 : goodV m.recs.length (k, nn) with
     | false =>
      rw [g3] at hstep exit
      exact .inr ⟨_, hstep _ rfl, .inr ⟨exit (by simp), _, rfl⟩⟩
     | true =>
      rw [g3] at hstep exit
      by_cases c1 : 1 ≤ co.length
      ·rw [decide_eq_true (by omega : (co.length : Int) ≥ 1)] at hstep
       rw [decide_eq_true c1] at exit
       by_cases c2 : co.length ≤ 64
       ·rw [decide_eq_true (by omega : (co.length : Int) ≤ 64)] at hstep
        rw [decide_eq_true c2] at exit
        rw [zbk g1] at hstep t1
        rw [zbk g2] at hstep t2
        simp only [cond_true, Bool.not_true, cond_false] at hstep
        rw [zn (by simp only [List.length_append]; omega), cond_true, zel n (k, nn) o2 (by omega), Option.bind_some, zn (by simp only [List.length_append]; omega), cond_true, zn (by simp only [List.length_append]; omega), cond_true, zA (by omega) (by omega), zO n co.length (by omega) (by omega),
         Option.bind_some, zn (by simp only [List.length_append]; omega), cond_true] at hstep
        obtain ⟨y, hy, hcase⟩ := refCode n m (m.recs.length : Int) (i : Int) b1 ((((a.2 ++ typesV ar) ++ typV (k, nn)) ++ typesV lo) ++ varN co.length) (ar, k, nn, lo, co) c2 (by simp only [List.length_append]; omega) hn
        rw [show qbo_W4 n (((m.recs.length : Int), (true, ((i : Int), 0))), ((m.recs, (m.funcs, (m.imps, (m.ints, m.texts)))), (b1, (((((a.2 ++ typesV ar) ++ typV (k, nn)) ++ typesV lo) ++ varN co.length), (ar, (k, (nn, (lo, co)))))))) = some y from hy, Option.bind_some] at hstep
        rcases hcase with ⟨hbad, rfl⟩ | ⟨hbad, z, rfl⟩
        ·simp only [] at hstep
         rw [zk (by omega)] at hstep
         refine .inl ⟨(true, ((((a.2 ++ typesV ar) ++ typV (k, nn)) ++ typesV lo) ++ varN co.length) ++ co.flatMap putV), hstep _ rfl, fun h => by omega, fun _ => ⟨rfl, hok.symm.trans ha⟩, ?_, ?_⟩
         ·rw [zaC hx, hg, hfit, g1, g2, g3, decide_eq_true c1, decide_eq_true c2, hbad]; rfl
         ·rw [zH hx, hbytes]
          simp only [fncV, List.append_assoc]
        ·exact .inr ⟨_, hstep _ rfl, .inr ⟨exit (by simp only [] at hbad; rw [hbad]; rfl), _, rfl⟩⟩
       ·rw [decide_eq_false (by omega : ¬ (co.length : Int) ≤ 64)] at hstep
        rw [decide_eq_false c2] at exit
        exact .inr ⟨_, hstep _ rfl, .inr ⟨exit (by simp), _, rfl⟩⟩
      ·rw [decide_eq_false (by omega : ¬ (co.length : Int) ≥ 1)] at hstep
       rw [decide_eq_false c1] at exit
       exact .inr ⟨_, hstep _ rfl, .inr ⟨exit (by simp), _, rfl⟩⟩
 ·obtain ⟨ia, ib, hg, hbytes⟩ := hI
  rw [List.take_length] at hg hbytes
  obtain ⟨ha, hok⟩ := ib (by omega)
  refine ⟨_, ?_, .inl ⟨by rw [hok, hg]; rfl, rfl⟩⟩
  show qbo_B2 n (m.recs.length : Int) a.1 (m.funcs.length : Int) m.recs m.funcs m.imps m.ints m.texts b1 a.2 = _
  unfold qbo_B2
  rw [zd, decide_eq_false (by omega), cond_false, ha, hbytes]
  rfl
end Sx
end
section
/- The rest of the document's bytes of a module; which modules are light. -/
set_option linter.unusedVariables false
set_option linter.unusedSimpArgs false
namespace Sx
open Go Go.Ab
theorem refImps (n : Nat) (m : ModD) (ho : OkM m) (hL : LightM m) (h8 : m.imps.length ≤ 8) (b1 b2 : List Int) (hn : 6000 ≤ n) :
  ∃ b, qbo_W6 n (((m.recs.length : Int), (true, 0)), (mtup m, (b1, (b2, varN m.imps.length)))) = some (m.imps.all (fitI m.recs.length), (mtup m, (b1, (b2, b)))) ∧ b.length ≤ 2000000 ∧ (m.imps.all (fitI m.recs.length) = true → b = listV impV m.imps) := by
 have hv := zg m.imps.length
 have h := zaB (B := fun s => qbo_B6 n s.1.1 s.1.2.1 s.1.2.2 s.2.1.1 s.2.1.2.1 s.2.1.2.2.1 s.2.1.2.2.2.1 s.2.1.2.2.2.2 s.2.2.1 s.2.2.2.1 s.2.2.2.2) (xs := m.imps) (mk := fun i (a : Bool × List Int) => (((m.recs.length : Int), (a.1, (i : Int))), (mtup m, (b1, (b2, a.2)))))
  (I := fun i a => a.1 = (m.imps.take i).all (fitI m.recs.length) ∧ a.2.length ≤ 11 + 70000 * i ∧ (a.1 = true → a.2 = varN m.imps.length ++ (m.imps.take i).flatMap impV))
  (Q := fun y => ∃ b, y = (m.imps.all (fitI m.recs.length), (mtup m, (b1, (b2, b)))) ∧ b.length ≤ 2000000 ∧ (m.imps.all (fitI m.recs.length) = true → b = listV impV m.imps))
  (fun i a x hx hI => ?_) (fun a hI => ?_) m.imps.length 0 n (true, varN m.imps.length) (by omega) ⟨rfl, by simp; omega, fun _ => by simp⟩ (by omega)
 ·obtain ⟨y, h1, b, rfl, h2⟩ := h
  exact ⟨b, h1, h2⟩
 ·have hi := zj hx
  have hm := List.mem_of_getElem? hx
  have hxl := hL.imps x hm
  obtain ⟨o1, o2⟩ := ho.imps x hm
  obtain ⟨ar, k, nn⟩ := x
  simp only at hxl o1 o2
  have htl := zcl m.recs.length 4 ar
  have t3 := zah (k, nn)
  obtain ⟨h1, h2, h3⟩ := hI
  have hfit : fitI m.recs.length (ar, k, nn) = (goodsV m.recs.length 4 ar && goodV m.recs.length (k, nn)) := rfl
  refine .inl ⟨(a.1 && fitI m.recs.length (ar, k, nn), a.2 ++ (typesR m.recs.length 4 ar).1 ++ typV (k, nn)), ?_, ?_, ?_, ?_⟩
  ·show qbo_B6 n (m.recs.length : Int) a.1 (i : Int) m.recs m.funcs m.imps m.ints m.texts b1 b2 a.2 = _
   unfold qbo_B6
   rw [zd, decide_eq_true (by omega), cond_true, zo, hx, Option.bind_some]
   simp only [Option.bind_some]
   rw [zbO n ar _ _ o1 (by omega) hn, Option.bind_some, zcj, zef n (k, nn), zel n (k, nn) o2 (by omega), hfit]
   simp only [Option.bind_some]
   rw [zn (by simp only [List.length_append]; omega), zn (by simp only [List.length_append]; omega), zk (by omega)]
   cases a.1 <;> cases goodsV m.recs.length 4 ar <;> rfl
  ·rw [h1, zaC hx]
  ·simp only [List.length_append]; omega
  ·intro hb
   simp only [Bool.and_eq_true, hfit] at hb
   simp only []
   rw [h3 hb.1, zbk hb.2.1, zH hx]
   simp only [impV, List.append_assoc]
 ·obtain ⟨h1, h2, h3⟩ := hI
  rw [List.take_length] at h1 h3
  refine ⟨_, ?_, a.2, rfl, by omega, fun hb => h3 (h1.trans hb)⟩
  show qbo_B6 n (m.recs.length : Int) a.1 (m.imps.length : Int) m.recs m.funcs m.imps m.ints m.texts b1 b2 a.2 = _
  unfold qbo_B6
  rw [zd, decide_eq_false (by omega), cond_false, h1]
theorem quo256 {v : Nat} (hv : v < 18446744073709551616) : quoI .u64 (v : Int) 256 = ((v / 256 : Nat) : Int) := by
 show IntKind.u64.wrap ((v : Int).tdiv 256) = _
 rw [Int.tdiv_eq_ediv_of_nonneg (by omega), wrapU64]
 omega
theorem zjd (n : Nat) (v : Nat) (hv : v < 18446744073709551616) (hn : 20 ≤ n) : qbv n (v : Int) 8 = some (fixN 8 v) := by
 have h := zaB (B := fun s => qbv_B0 n s.1.1 s.1.2.1 s.1.2.2 s.2) (xs := List.range 8) (mk := fun i (a : List Int) => ((((v / 256 ^ i : Nat) : Int), ((8 : Int), (i : Int))), a)) (I := fun i a => a = (List.range i).map fun j => ((v / 256 ^ j % 256 : Nat) : Int)) (Q := fun y => y = fixN 8 v)
  (fun i a x hx hI => ?_) (fun a hI => ?_) 8 0 n [] (by simp) rfl (by omega)
 ·obtain ⟨y, h1, rfl⟩ := h
  unfold qbv
  rw [Nat.pow_zero, Nat.div_one] at h1
  rw [show qbv_W0 n (((v : Int), ((8 : Int), 0)), []) = _ from h1]
  rfl
 ·have hi := zj hx
  rw [List.length_range] at hi
  subst hI
  have hd : v / 256 ^ i < 18446744073709551616 := Nat.lt_of_le_of_lt (Nat.div_le_self _ _) hv
  have e1 : v / 256 ^ (i + 1) = v / 256 ^ i / 256 := by rw [Nat.pow_succ, Nat.div_div_eq_div_mul]
  have e2 : (List.range (i + 1)).map (fun j => ((v / 256 ^ j % 256 : Nat) : Int)) = (List.range i).map (fun j => ((v / 256 ^ j % 256 : Nat) : Int)) ++ [((v / 256 ^ i % 256 : Nat) : Int)] := by
   rw [List.range_succ, List.map_append]; rfl
  refine .inl ⟨_, ?_, rfl⟩
  rw [e1, e2]
  generalize v / 256 ^ i = q at hd
  show qbv_B0 n (q : Int) 8 (i : Int) ((List.range i).map fun j => ((v / 256 ^ j % 256 : Nat) : Int)) = _
  unfold qbv_B0
  rw [decide_eq_true (by omega), cond_true, cond_true, zcW (by omega), zcE (by omega) (by omega), quo256 hd, zn (by simp; omega), cond_true, zk (by omega)]
  rfl
 ·subst hI
  refine ⟨_, ?_, rfl⟩
  rfl
theorem refInts (n : Nat) (m : ModD) (ho : OkM m) (h16 : m.ints.length ≤ 16) (ok : Bool) (b1 b2 b3 : List Int) (hn : 6000 ≤ n) :
  qbo_W8 n ((ok, 0), (mtup m, (b1, (b2, (b3, varN m.ints.length))))) = some (ok, (mtup m, (b1, (b2, (b3, listV (fun v => fixN 8 v.toNat) m.ints))))) := by
 have hv := zg m.ints.length
 have h := zP (B := fun s => qbo_B8 n s.1.1 s.1.2 s.2.1.1 s.2.1.2.1 s.2.1.2.2.1 s.2.1.2.2.2.1 s.2.1.2.2.2.2 s.2.2.1 s.2.2.2.1 s.2.2.2.2.1 s.2.2.2.2.2) (xs := m.ints) (mk := fun i a => ((ok, (i : Int)), (mtup m, (b1, (b2, (b3, a)))))) (f := fun v => fixN 8 v.toNat)
  (e := fun a => (ok, (mtup m, (b1, (b2, (b3, a)))))) (c := 8) (m0 := varN m.ints.length) (cap := 40000) (fun x hx => by rw [zbF]; omega) (by omega) (fun i a x hx hmem ha => ?_) (fun a => ?_) (n := n) (by omega)
 ·exact h
 ·have hi := zj hx
  have hxr := ho.ints x hmem
  obtain ⟨u, rfl⟩ : ∃ u : Nat, x = (u : Int) := ⟨x.toNat, by omega⟩
  show qbo_B8 n ok (i : Int) m.recs m.funcs m.imps m.ints m.texts b1 b2 b3 a = _
  unfold qbo_B8
  rw [zbF] at ha
  rw [zd, decide_eq_true (by omega), cond_true, zo, hx, Option.bind_some, zjd n u (by omega) (by omega), Option.bind_some, zn (by rw [List.length_append, zbF]; omega), cond_true, zk (by omega), Int.toNat_natCast]
 ·show qbo_B8 n ok (m.ints.length : Int) m.recs m.funcs m.imps m.ints m.texts b1 b2 b3 a = _
  unfold qbo_B8
  rw [zd, decide_eq_false (by omega), cond_false]
theorem zks {s : ByteArray} : (txtV s).length ≤ 11 + s.size := by
 have := zg s.size
 rw [txtV, List.length_append, zaZ]; omega
theorem refTexts (n : Nat) (m : ModD) (hL : LightM m) (h16 : m.texts.length ≤ 16) (ok : Bool) (b1 b2 b3 b4 : List Int) (hn : 6000 ≤ n) :
  qbo_W10 n ((ok, 0), (mtup m, (b1, (b2, (b3, (b4, varN m.texts.length)))))) = some (ok && m.texts.all fun s => decide (s.size ≤ 32), (mtup m, (b1, (b2, (b3, (b4, listV txtV m.texts)))))) := by
 have hv := zg m.texts.length
 have h := zaB (B := fun s => qbo_B10 n s.1.1 s.1.2 s.2.1.1 s.2.1.2.1 s.2.1.2.2.1 s.2.1.2.2.2.1 s.2.1.2.2.2.2 s.2.2.1 s.2.2.2.1 s.2.2.2.2.1 s.2.2.2.2.2.1 s.2.2.2.2.2.2) (xs := m.texts) (mk := fun i (a : Bool × List Int) => ((a.1, (i : Int)), (mtup m, (b1, (b2, (b3, (b4, a.2)))))))
  (I := fun i a => a.1 = (ok && (m.texts.take i).all fun s => decide (s.size ≤ 32)) ∧ a.2.length ≤ 11 + 3011 * i ∧ a.2 = varN m.texts.length ++ (m.texts.take i).flatMap txtV)
  (Q := fun y => y = (ok && m.texts.all fun s => decide (s.size ≤ 32), (mtup m, (b1, (b2, (b3, (b4, listV txtV m.texts)))))))
  (fun i a x hx hI => ?_) (fun a hI => ?_) m.texts.length 0 n (ok, varN m.texts.length) (by omega) ⟨by simp, by simp; omega, by simp⟩ (by omega)
 ·obtain ⟨y, h1, rfl⟩ := h
  exact h1
 ·have hi := zj hx
  have hs := hL.texts x (List.mem_of_getElem? hx)
  have hvx := zg x.size
  obtain ⟨h1, h2, h3⟩ := hI
  have hd : decide (lenS x ≤ 32) = decide (x.size ≤ 32) := by
   unfold lenS
   by_cases h : x.size ≤ 32
   ·rw [decide_eq_true h, decide_eq_true (by omega)]
   ·rw [decide_eq_false h, decide_eq_false (by omega)]
  refine .inl ⟨(a.1 && decide (x.size ≤ 32), a.2 ++ txtV x), ?_, ?_, ?_, ?_⟩
  ·show qbo_B10 n a.1 (i : Int) m.recs m.funcs m.imps m.ints m.texts b1 b2 b3 b4 a.2 = _
   unfold qbo_B10
   rw [zd, decide_eq_true (by omega), cond_true, zo, hx]
   simp only [Option.bind_some]
   rw [show cvtI .u64 (lenS x) = ((x.size : Nat) : Int) from zA (a := ((x.size : Nat) : Int)) (by omega) (by omega), zO n x.size (by omega) (by omega)]
   simp only [Option.bind_some]
   rw [zn (by rw [List.length_append]; omega), zn (by simp only [List.length_append, zaZ]; omega), zk (by omega), hd]
   cases a.1 <;> simp [txtV]
  ·simp only []
   rw [h1, zaC hx, Bool.and_assoc]
  ·have := zks (s := x)
   simp only [List.length_append]; omega
  ·simp only []
   rw [h3, zH hx, List.append_assoc]
 ·obtain ⟨h1, h2, h3⟩ := hI
  rw [List.take_length] at h1 h3
  refine ⟨_, ?_, rfl⟩
  show qbo_B10 n a.1 (m.texts.length : Int) m.recs m.funcs m.imps m.ints m.texts b1 b2 b3 b4 a.2 = _
  unfold qbo_B10
  rw [zd, decide_eq_false (by omega), cond_false, h1, h3]
  rfl
theorem zlu (n : Nat) (l : List (List Int)) (hl : l.length ≤ 100) (hc : ∀ x ∈ l, x.length ≤ 3000000) (hn : 200 ≤ n) : qcb n l = some (joinV l) := by
 have hv := zg l.length
 have hc2 : ∀ x ∈ l, (varN x.length ++ x).length ≤ 3000011 := fun x hx => by
  have := zg x.length
  have := hc x hx
  rw [List.length_append]; omega
 unfold qcb
 rw [zd, zA (by omega) (by omega), zO n l.length (by omega) (by omega), Option.bind_some]
 have h := zP (B := fun s => qcb_B0 n s.1.1 s.1.2 s.2) (xs := l) (mk := fun i a => ((l, (i : Int)), a)) (f := fun p => varN p.length ++ p) (e := id) (c := 3000011) (m0 := varN l.length) (cap := 400000000)
  hc2 (by omega) (fun i a x hx hmem ha => ?_) (fun a => ?_) (n := n) (by omega)
 ·rw [show qcb_W0 n ((l, 0), varN l.length) = _ from h, Option.bind_some]
  rfl
 ·have hi := zj hx
  have hvx := zg x.length
  have hxl := hc x hmem
  rw [List.length_append] at ha
  show qcb_B0 n l (i : Int) a = _
  unfold qcb_B0
  rw [zd, decide_eq_true (by omega), cond_true, zo, hx]
  simp only [Option.bind_some]
  rw [zd, zA (by omega) (by omega), zO n x.length (by omega) (by omega), Option.bind_some, zn (by rw [List.length_append]; omega), cond_true, zn (by simp only [List.length_append]; omega), cond_true, zk (by omega), List.append_assoc]
 ·show qcb_B0 n l (l.length : Int) a = _
  unfold qcb_B0
  rw [zd, decide_eq_false (by omega), cond_false]; rfl
theorem zjC (n : Nat) (m : ModD) (ho : OkM m) (hL : LightM m) (hn : 6000 ≤ n) : ∃ b, qbo n m.recs m.funcs m.imps m.ints m.texts = some (b, fitsV m) ∧ (fitsV m = true → b = encV m) := by
 unfold qbo
 rw [zd m.recs, zd m.funcs, zd m.imps, zd m.ints, zd m.texts]
 have no : fitsV m = false → ∃ b : List Int, some (([] : List Int), false) = some (b, fitsV m) ∧ (fitsV m = true → b = encV m) := fun h => ⟨[], by rw [h], fun h' => by rw [h] at h'; cases h'⟩
 by_cases h1 : m.recs.length ≤ 8
 case neg =>
  rw [decide_eq_true (by omega : (m.recs.length : Int) > 8), cond_true]
  exact no (by unfold fitsV; rw [decide_eq_false h1]; rfl)
 rw [decide_eq_false (by omega : ¬ (m.recs.length : Int) > 8), cond_false]
 by_cases h2 : 1 ≤ m.funcs.length
 case neg =>
  rw [decide_eq_true (by omega : (m.funcs.length : Int) < 1), cond_true]
  exact no (by unfold fitsV; rw [decide_eq_false h2]; simp)
 rw [decide_eq_false (by omega : ¬ (m.funcs.length : Int) < 1), cond_false]
 by_cases h3 : m.funcs.length ≤ 8
 case neg =>
  rw [decide_eq_true (by omega : (m.funcs.length : Int) > 8), cond_true]
  exact no (by unfold fitsV; rw [decide_eq_false h3]; simp)
 rw [decide_eq_false (by omega : ¬ (m.funcs.length : Int) > 8), cond_false]
 by_cases h4 : m.imps.length ≤ 8
 case neg =>
  rw [decide_eq_true (by omega : (m.imps.length : Int) > 8), cond_true]
  exact no (by unfold fitsV; rw [decide_eq_false h4]; simp)
 rw [decide_eq_false (by omega : ¬ (m.imps.length : Int) > 8), cond_false]
 by_cases h5 : m.ints.length ≤ 16
 case neg =>
  rw [decide_eq_true (by omega : (m.ints.length : Int) > 16), cond_true]
  exact no (by unfold fitsV; rw [decide_eq_false h5]; simp)
 rw [decide_eq_false (by omega : ¬ (m.ints.length : Int) > 16), cond_false]
 by_cases h6 : m.texts.length ≤ 16
 case neg =>
  rw [decide_eq_true (by omega : (m.texts.length : Int) > 16), cond_true]
  exact no (by unfold fitsV; rw [decide_eq_false h6]; simp)
 rw [decide_eq_false (by omega : ¬ (m.texts.length : Int) > 16), cond_false]
 have hfits : fitsV m = (m.recs.all (goodsV m.recs.length 6) && m.funcs.all (fitF m.recs.length) && (m.imps.all (fitI m.recs.length) && m.texts.all fun s => decide (s.size ≤ 32))) := by
  unfold fitsV
  rw [decide_eq_true h1, decide_eq_true h2, decide_eq_true h3, decide_eq_true h4, decide_eq_true h5, decide_eq_true h6]
  simp only [Bool.true_and, Bool.and_assoc]
 obtain ⟨b1, e1, p1⟩ := refRecs n m ho hL h1 hn
 obtain ⟨y, e2, p2⟩ := refFuncs n m ho hL h2 h3 (m.recs.all (goodsV m.recs.length 6)) b1 hn
 rw [zA (by omega) (by omega), zO n m.recs.length (by omega) (by omega), Option.bind_some]
 rw [show qbo_W0 n (((m.recs.length : Int), (true, 0)), ((m.recs, (m.funcs, (m.imps, (m.ints, m.texts)))), varN m.recs.length)) = _ from e1, Option.bind_some]
 simp only []
 rw [zd m.funcs, zA (by omega) (by omega), zO n m.funcs.length (by omega) (by omega), Option.bind_some]
 rw [show qbo_W2 n (((m.recs.length : Int), (m.recs.all (goodsV m.recs.length 6), 0)), ((m.recs, (m.funcs, (m.imps, (m.ints, m.texts)))), (b1, varN m.funcs.length))) = _ from e2, Option.bind_some]
 rcases p2 with ⟨hf, rfl⟩ | ⟨hf, z, rfl⟩
 ·have hf2 := hf
  rw [Bool.and_eq_true] at hf2
  obtain ⟨b3, e3, l3, p3⟩ := refImps n m ho hL h4 b1 (listV fncV m.funcs) hn
  simp only []
  rw [zd m.imps, zA (by omega) (by omega), zO n m.imps.length (by omega) (by omega), Option.bind_some]
  rw [show qbo_W6 n (((m.recs.length : Int), (true, 0)), ((m.recs, (m.funcs, (m.imps, (m.ints, m.texts)))), (b1, (listV fncV m.funcs, varN m.imps.length)))) = _ from e3, Option.bind_some]
  simp only []
  rw [zd m.ints, zA (by omega) (by omega), zO n m.ints.length (by omega) (by omega), Option.bind_some]
  rw [show qbo_W8 n ((m.imps.all (fitI m.recs.length), 0), ((m.recs, (m.funcs, (m.imps, (m.ints, m.texts)))), (b1, (listV fncV m.funcs, (b3, varN m.ints.length))))) = _ from refInts n m ho h5 _ b1 _ b3 hn, Option.bind_some]
  simp only []
  rw [zd m.texts, zA (by omega) (by omega), zO n m.texts.length (by omega) (by omega), Option.bind_some]
  rw [show qbo_W10 n ((m.imps.all (fitI m.recs.length), 0), ((m.recs, (m.funcs, (m.imps, (m.ints, m.texts)))), (b1, (listV fncV m.funcs, (b3, (listV (fun v => fixN 8 v.toNat) m.ints, varN m.texts.length)))))) = _ from refTexts n m hL h6 _ b1 _ b3 _ hn, Option.bind_some]
  simp only []
  have v1 := zg m.recs.length
  have v2 := zg m.funcs.length
  have v4 := zg m.ints.length
  have v5 := zg m.texts.length
  have c1 := zy typesV 143 m.recs fun x hx => by
   have := zaf x
   have := zaG (List.all_eq_true.1 hf2.1 x hx)
   omega
  have c2 := zy fncV 1900 m.funcs fun x hx => (zdd (List.all_eq_true.1 hf2.2 x hx)).2.2.2.2
  have c4 := zy (fun v : Int => fixN 8 v.toNat) 8 m.ints fun x hx => by rw [zbF]; omega
  have c5 := zy txtV 3011 m.texts fun x hx => by
   have := zks (s := x)
   have := hL.texts x hx
   omega
  rw [zlu n [b1, listV fncV m.funcs, b3, listV (fun v => fixN 8 v.toNat) m.ints, listV txtV m.texts] (by simp) ?_ (by omega), Option.bind_some]
  ·refine ⟨_, by rw [hfits, hf2.1, hf2.2]; rfl, fun h => ?_⟩
   rw [hfits, Bool.and_eq_true, Bool.and_eq_true (m.imps.all _)] at h
   rw [p1 hf2.1, p3 h.2.1]
   rfl
  ·intro x hx
   simp only [List.mem_cons, List.not_mem_nil, or_false] at hx
   rcases hx with rfl | rfl | rfl | rfl | rfl
   ·rw [p1 hf2.1, listV, List.length_append]; omega
   ·rw [listV, List.length_append]; omega
   ·omega
   ·rw [listV, List.length_append]; omega
   ·rw [listV, List.length_append]; omega
 ·exact no (by rw [hfits, hf]; rfl)
end Sx
end
section
/- Which modules are light; which hang together. -/
set_option linter.unusedVariables false
set_option linter.unusedSimpArgs false
namespace Sx
open Go Go.Ab
structure LenM (m : ModD) : Prop where
 n1 : m.recs.length ≤ 140737488351232
 n2 : m.funcs.length ≤ 140737488351232
 n3 : m.imps.length ≤ 140737488351232
 n4 : m.ints.length ≤ 140737488351232
 n5 : m.texts.length ≤ 140737488351232
 recs : ∀ l ∈ m.recs, l.length ≤ 140737488351232
 funcs : ∀ f ∈ m.funcs, f.1.length ≤ 140737488351232 ∧ f.2.2.2.1.length ≤ 140737488351232 ∧ f.2.2.2.2.length ≤ 140737488351232
 imps : ∀ i ∈ m.imps, i.1.length ≤ 140737488351232
 texts : ∀ s ∈ m.texts, s.size ≤ 140737488351232
theorem zeT {S X A : Type} {B : S → Option (S ⊕ X)} {xs : List A} {mk : Nat → Int → S} {f : A → Nat} {e : Int → X} {c : Nat} {base : Int} (hb : 0 ≤ base) (hc : ∀ x ∈ xs, f x ≤ c) (hcap : base + (c : Int) * (xs.length : Int) ≤ 9000000000000000000)
  (hs : ∀ i a x, xs[i]? = some x → x ∈ xs → 0 ≤ a → a + (f x : Int) ≤ 9000000000000000000 → B (mk i a) = some (.inl (mk (i + 1) (a + (f x : Int))))) (he : ∀ a, B (mk xs.length a) = some (.inr (e a))) {n : Nat} (hn : xs.length < n) :
  ∃ a, loopS B n (mk 0 base) = some (e a) ∧ base ≤ a ∧ a ≤ base + (c : Int) * (xs.length : Int) ∧ ∀ x ∈ xs, (f x : Int) ≤ a := by
 have h := zaB (B := B) (xs := xs) (mk := mk) (I := fun i a => base ≤ a ∧ a ≤ base + (c : Int) * (i : Int) ∧ ∀ x ∈ xs.take i, (f x : Int) ≤ a) (Q := fun y => ∃ a, y = e a ∧ base ≤ a ∧ a ≤ base + (c : Int) * (xs.length : Int) ∧ ∀ x ∈ xs, (f x : Int) ≤ a)
  (fun i a x hx hI => ?_) (fun a hI => ?_) xs.length 0 n base (by omega) ⟨Int.le_refl _, by simp, by simp⟩ hn
 ·obtain ⟨y, h1, a, rfl, h2⟩ := h
  exact ⟨a, h1, h2⟩
 ·have hi := zj hx
  have hm := List.mem_of_getElem? hx
  have hcx := hc x hm
  obtain ⟨h1, h2, h3⟩ := hI
  have hmul : (c : Int) * (i : Int) + (c : Int) ≤ (c : Int) * (xs.length : Int) := by
   have : (c * (i + 1) : Nat) ≤ c * xs.length := Nat.mul_le_mul_left c hi
   rw [Nat.mul_succ] at this
   have h := Int.ofNat_le.2 this
   simpa using h
  have hsucc : (c : Int) * ((i + 1 : Nat) : Int) = (c : Int) * (i : Int) + (c : Int) := by
   rw [Int.natCast_add, Int.mul_add]; simp
  refine .inl ⟨_, hs i a x hx hm (by omega) (by omega), by omega, by rw [hsucc]; omega, fun z hz => ?_⟩
  rw [List.take_add_one, hx, List.mem_append] at hz
  rcases hz with hz | hz
  ·have := h3 z hz; omega
  ·simp at hz; subst hz; omega
 ·obtain ⟨h1, h2, h3⟩ := hI
  rw [List.take_length] at h3
  exact ⟨_, he a, a, rfl, h1, h2, h3⟩
theorem zaz {a b : Int} (h1 : 0 ≤ a) (h2 : 0 ≤ b) (h3 : a + b ≤ 9000000000000000000) : addI .i64 a b = a + b := zkf (by omega) (by omega)
theorem zkr (n : Nat) (m : ModD) (hl : LenM m) (hn : 6000 ≤ n) : ∃ b, qbr n m.recs m.funcs m.imps m.ints m.texts = some b ∧ (b = true → LightM m) := by
 unfold qbr
 have n1 := hl.n1
 have n2 := hl.n2
 have n3 := hl.n3
 have n4 := hl.n4
 have n5 := hl.n5
 have hs : addI .i64 (addI .i64 (addI .i64 (addI .i64 (lenI m.recs) (lenI m.funcs)) (lenI m.imps)) (lenI m.ints)) (lenI m.texts) = ((m.recs.length + m.funcs.length + m.imps.length + m.ints.length + m.texts.length : Nat) : Int) := by
  simp only [zd]
  rw [zaz (b := ((m.funcs.length : Nat) : Int)) (by omega) (by omega) (by omega), zaz (b := ((m.imps.length : Nat) : Int)) (by omega) (by omega) (by omega), zaz (b := ((m.ints.length : Nat) : Int)) (by omega) (by omega) (by omega), zaz (b := ((m.texts.length : Nat) : Int)) (by omega) (by omega) (by omega)]
  omega
 rw [hs]
 by_cases h200 : m.recs.length + m.funcs.length + m.imps.length + m.ints.length + m.texts.length ≤ 200
 case neg =>
  rw [decide_eq_true (by omega), cond_true]
  exact ⟨false, rfl, fun h => by cases h⟩
 rw [decide_eq_false (by omega), cond_false]
 obtain ⟨a1, e1, l1, u1, p1⟩ := zeT (B := fun s => qbr_B0 n s.1.1 s.1.2 s.2.1 s.2.2.1 s.2.2.2.1 s.2.2.2.2.1 s.2.2.2.2.2) (xs := m.recs) (mk := fun i (a : Int) => ((a, (i : Int)), mtup m)) (f := List.length) (e := fun a => (a, mtup m)) (c := 140737488351232)
  (base := ((m.recs.length + m.funcs.length + m.imps.length + m.ints.length + m.texts.length : Nat) : Int)) (by omega) hl.recs (by omega) (fun i a x hx hm h0 hcap => by
   have hi := zj hx
   show qbr_B0 n a (i : Int) m.recs m.funcs m.imps m.ints m.texts = _
   unfold qbr_B0
   rw [zd, decide_eq_true (by omega), cond_true, zo, hx, Option.bind_some, zd, zaz h0 (by omega) hcap, zk (by omega)]) (fun a => by
   show qbr_B0 n a (m.recs.length : Int) m.recs m.funcs m.imps m.ints m.texts = _
   unfold qbr_B0
   rw [zd, decide_eq_false (by omega), cond_false]) (n := n) (by omega)
 rw [show qbr_W0 n ((((m.recs.length + m.funcs.length + m.imps.length + m.ints.length + m.texts.length : Nat) : Int), 0), (m.recs, (m.funcs, (m.imps, (m.ints, m.texts))))) = _ from e1, Option.bind_some]
 obtain ⟨a2, e2, l2, u2, p2⟩ := zeT (B := fun s => qbr_B2 n s.1.1 s.1.2 s.2.1 s.2.2.1 s.2.2.2.1 s.2.2.2.2.1 s.2.2.2.2.2) (xs := m.funcs) (mk := fun i (a : Int) => ((a, (i : Int)), mtup m)) (f := fun f => f.1.length + f.2.2.2.1.length + f.2.2.2.2.length) (e := fun a => (a, mtup m)) (c := 422212465053696)
  (base := a1) (by omega) (fun f hf => by obtain ⟨h1, h2, h3⟩ := hl.funcs f hf; omega) (by omega) (fun i a x hx hm h0 hcap => by
   have hi := zj hx
   show qbr_B2 n a (i : Int) m.recs m.funcs m.imps m.ints m.texts = _
   unfold qbr_B2
   rw [zd, decide_eq_true (by omega), cond_true, zo, hx]
   simp only [Option.bind_some, zd]
   rw [zaz (b := ((x.1.length : Nat) : Int)) h0 (by omega) (by omega), zaz (b := ((x.2.2.2.1.length : Nat) : Int)) (by omega) (by omega) (by omega), zaz (b := ((x.2.2.2.2.length : Nat) : Int)) (by omega) (by omega) (by omega), zk (by omega)]
   have : a + ((x.1.length : Nat) : Int) + ((x.2.2.2.1.length : Nat) : Int) + ((x.2.2.2.2.length : Nat) : Int) = a + ((x.1.length + x.2.2.2.1.length + x.2.2.2.2.length : Nat) : Int) := by omega
   rw [this]) (fun a => by
   show qbr_B2 n a (m.funcs.length : Int) m.recs m.funcs m.imps m.ints m.texts = _
   unfold qbr_B2
   rw [zd, decide_eq_false (by omega), cond_false]) (n := n) (by omega)
 rw [show qbr_W2 n ((a1, 0), (m.recs, (m.funcs, (m.imps, (m.ints, m.texts))))) = _ from e2, Option.bind_some]
 obtain ⟨a3, e3, l3, u3, p3⟩ := zeT (B := fun s => qbr_B4 n s.1.1 s.1.2 s.2.1 s.2.2.1 s.2.2.2.1 s.2.2.2.2.1 s.2.2.2.2.2) (xs := m.imps) (mk := fun i (a : Int) => ((a, (i : Int)), mtup m)) (f := fun f => f.1.length) (e := fun a => (a, mtup m)) (c := 140737488351232)
  (base := a2) (by omega) hl.imps (by omega) (fun i a x hx hm h0 hcap => by
   have hi := zj hx
   show qbr_B4 n a (i : Int) m.recs m.funcs m.imps m.ints m.texts = _
   unfold qbr_B4
   rw [zd, decide_eq_true (by omega), cond_true, zo, hx, Option.bind_some, zd, zaz h0 (by omega) hcap, zk (by omega)]) (fun a => by
   show qbr_B4 n a (m.imps.length : Int) m.recs m.funcs m.imps m.ints m.texts = _
   unfold qbr_B4
   rw [zd, decide_eq_false (by omega), cond_false]) (n := n) (by omega)
 rw [show qbr_W4 n ((a2, 0), (m.recs, (m.funcs, (m.imps, (m.ints, m.texts))))) = _ from e3, Option.bind_some]
 obtain ⟨a4, e4, l4, u4, p4⟩ := zeT (B := fun s => qbr_B6 n s.1.1 s.1.2 s.2.1 s.2.2.1 s.2.2.2.1 s.2.2.2.2.1 s.2.2.2.2.2) (xs := m.texts) (mk := fun i (a : Int) => ((a, (i : Int)), mtup m)) (f := ByteArray.size) (e := fun a => (a, mtup m)) (c := 140737488351232)
  (base := a3) (by omega) hl.texts (by omega) (fun i a x hx hm h0 hcap => by
   have hi := zj hx
   show qbr_B6 n a (i : Int) m.recs m.funcs m.imps m.ints m.texts = _
   unfold qbr_B6
   rw [zd, decide_eq_true (by omega), cond_true, zo, hx, Option.bind_some, show lenS x = ((x.size : Nat) : Int) from rfl, zaz h0 (by omega) hcap, zk (by omega)]) (fun a => by
   show qbr_B6 n a (m.texts.length : Int) m.recs m.funcs m.imps m.ints m.texts = _
   unfold qbr_B6
   rw [zd, decide_eq_false (by omega), cond_false]) (n := n) (by omega)
 rw [show qbr_W6 n ((a3, 0), (m.recs, (m.funcs, (m.imps, (m.ints, m.texts))))) = _ from e4, Option.bind_some]
 refine ⟨_, rfl, fun h => ?_⟩
 have h3000 := of_decide_eq_true h
 simp only at h3000
 refine ⟨by omega, by omega, by omega, by omega, by omega, fun x hx => ?_, fun x hx => ?_, fun x hx => ?_, fun x hx => ?_⟩
 ·have := p1 x hx; omega
 ·have := p2 x hx; omega
 ·have := p3 x hx; omega
 ·have := p4 x hx; omega
end Sx
end
section
/- Which modules are the same: both answers in plain words. -/
set_option linter.unusedVariables false
set_option linter.unusedSimpArgs false
namespace Sx
open Go Go.Ab
theorem zbC {A X S : Type} {xs ys : List A} {B : S → Option (S ⊕ X)} {mk : Nat → S} {p : A → A → Bool} {found : Nat → A → A → X} {e : X} (hlen : xs.length = ys.length)
  (hs : ∀ i x y, xs[i]? = some x → ys[i]? = some y → B (mk i) = (if p x y = true then some (.inl (mk (i + 1))) else some (.inr (found i x y))))
  (he : B (mk xs.length) = some (.inr e)) (n : Nat) (hn : xs.length < n) :
  ((xs.zip ys).all (fun q => p q.1 q.2) = true ∧ loopS B n (mk 0) = some e) ∨ ((xs.zip ys).all (fun q => p q.1 q.2) = false ∧ ∃ i x y, loopS B n (mk 0) = some (found i x y)) := by
 have hz : (xs.zip ys).length = xs.length := by simp [hlen]
 have h := zab (xs := xs.zip ys) (B := B) (mk := mk) (p := fun q => !p q.1 q.2) (found := fun i q => found i q.1 q.2) (e := e) (fun i q hq => ?_) (by rw [hz]; exact he) xs.length 0 n (by omega) hn
 ·rw [List.drop_zero] at h
  have ha : (xs.zip ys).all (fun q => p q.1 q.2) = !(xs.zip ys).any (fun q => !p q.1 q.2) := by rw [zdp]
  rcases h with ⟨h1, k, q, _, _, h2⟩ | ⟨h1, h2⟩
  ·exact .inr ⟨by rw [ha, h1]; rfl, k, q.1, q.2, h2⟩
  ·exact .inl ⟨by rw [ha, h1]; rfl, h2⟩
 ·have hi : i < (xs.zip ys).length := zj hq
  have hx : xs[i]? = some q.1 := by
   rw [List.getElem?_eq_getElem hi] at hq
   have := Option.some.inj hq
   rw [List.getElem_zip] at this
   rw [← this, List.getElem?_eq_getElem]
  have hy : ys[i]? = some q.2 := by
   rw [List.getElem?_eq_getElem hi] at hq
   have := Option.some.inj hq
   rw [List.getElem_zip] at this
   rw [← this, List.getElem?_eq_getElem]
  rw [hs i q.1 q.2 hx hy]
  cases p q.1 q.2 <;> rfl
def eqL {A : Type} (p : A → A → Bool) (xs ys : List A) : Bool := decide (xs.length = ys.length) && (xs.zip ys).all (fun q => p q.1 q.2)
theorem lenNe {A B : Type} (a : List A) (b : List B) : (lenI a != lenI b) = !decide (a.length = b.length) := by
 rw [zd, zd]
 by_cases h : a.length = b.length
 ·simp [h]
 ·rw [decide_eq_false h]
  show (!((a.length : Int) == (b.length : Int))) = !false
  rw [beq_eq_false_iff_ne.2 (by omega)]
theorem zay {A : Type} {p : A → A → Bool} (xs : List A) (h : ∀ x ∈ xs, p x x = true) : eqL p xs xs = true := by
 unfold eqL
 rw [decide_eq_true rfl, Bool.true_and, List.all_eq_true]
 intro q hq
 obtain ⟨i, hi, rfl⟩ := List.getElem_of_mem hq
 rw [List.getElem_zip]
 exact h _ (List.getElem_mem _)
def eqT (x y : TyD) : Bool := (x.1 == y.1) && (x.2 == y.2)
def eqI (x y : InD) : Bool := (x.1 == y.1) && ((x.2.1 == y.2.1) && (x.2.2 == y.2.2))
def eqN (x y : Int) : Bool := x == y
theorem qbd_eq (n : Nat) (a b : List TyD) (ha : a.length ≤ 5000) (hn : 6000 ≤ n) : qbd n a b = some (eqL eqT a b) := by
 unfold qbd eqL
 rw [lenNe]
 by_cases hl : a.length = b.length
 ·rw [decide_eq_true hl, Bool.not_true, cond_false, Bool.true_and]
  have h := zbC (B := fun s => qbd_B0 n s.1 s.2.1 s.2.2) (mk := fun (i : Nat) => (a, (b, (i : Int)))) (p := eqT) (found := fun i x y => Sum.inl false) (e := Sum.inr ()) hl (fun i x y hx hy => ?_) ?_ n (by omega)
  ·rcases h with ⟨h1, h2⟩ | ⟨h1, i, x, y, h2⟩
   ·rw [show qbd_W0 n (a, (b, 0)) = _ from h2, h1]; rfl
   ·rw [show qbd_W0 n (a, (b, 0)) = _ from h2, h1]; rfl
  ·have hi := zj hx
   show qbd_B0 n a b (i : Int) = _
   unfold qbd_B0
   rw [zd, decide_eq_true (by omega), cond_true, zo, hx, Option.bind_some, zo, hy, Option.bind_some, zk (by omega)]
   show (bif !eqT x y then _ else _) = _
   cases eqT x y <;> rfl
  ·show qbd_B0 n a b (a.length : Int) = _
   unfold qbd_B0
   rw [zd, decide_eq_false (by omega), cond_false]
 ·rw [decide_eq_false hl]; rfl
def eqTs (x y : List TyD) : Bool := eqL eqT x y
def eqF (x y : FnD) : Bool := ((x.2.1 == y.2.1) && (x.2.2.1 == y.2.2.1)) && (eqL eqT x.1 y.1 && (eqL eqT x.2.2.2.1 y.2.2.2.1 && eqL eqI x.2.2.2.2 y.2.2.2.2))
def eqM (x y : ImD) : Bool := ((x.2.1 == y.2.1) && (x.2.2 == y.2.2)) && eqL eqT x.1 y.1
def sameV (a b : ModD) : Bool := eqL eqTs a.recs b.recs && (eqL eqF a.funcs b.funcs && (eqL eqM a.imps b.imps && (eqL eqN a.ints b.ints && eqL eqS a.texts b.texts)))
theorem refSame0 (n : Nat) (a b : ModD) (hl : a.recs.length = b.recs.length) (hL : LightM a) (hn : 6000 ≤ n) :
  ((a.recs.zip b.recs).all (fun q => eqTs q.1 q.2) = true ∧ qu_W0 n (0, (mtup a, mtup b)) = some (Sum.inr (mtup a, mtup b))) ∨
  ((a.recs.zip b.recs).all (fun q => eqTs q.1 q.2) = false ∧ ∃ (i : Nat) (x y : List TyD), qu_W0 n (0, (mtup a, mtup b)) = some (Sum.inl (false, (mtup a, mtup b)))) := by
 have l1 := hL.n1
 refine zbC (B := fun s => qu_B0 n s.1 s.2.1.1 s.2.1.2.1 s.2.1.2.2.1 s.2.1.2.2.2.1 s.2.1.2.2.2.2 s.2.2.1 s.2.2.2.1 s.2.2.2.2.1 s.2.2.2.2.2.1 s.2.2.2.2.2.2) (mk := fun (i : Nat) => ((i : Int), (mtup a, mtup b))) (p := eqTs) (found := fun i x y => Sum.inl (false, (mtup a, mtup b))) (e := Sum.inr (mtup a, mtup b)) hl (fun i x y hx hy => ?_) ?_ n (by omega)
 ·have hi := zj hx
  have h3 := hL.recs x (List.mem_of_getElem? hx)
  show qu_B0 n (i : Int) a.recs a.funcs a.imps a.ints a.texts b.recs b.funcs b.imps b.ints b.texts = _
  unfold qu_B0
  rw [zd, decide_eq_true (by omega), cond_true, zo, hx, Option.bind_some, zo, hy, Option.bind_some, qbd_eq n x y (by omega) hn, Option.bind_some, zk (by omega)]
  show (bif !eqTs x y then _ else _) = _
  cases eqTs x y <;> rfl
 ·show qu_B0 n (a.recs.length : Int) a.recs a.funcs a.imps a.ints a.texts b.recs b.funcs b.imps b.ints b.texts = _
  unfold qu_B0
  rw [zd, decide_eq_false (by omega), cond_false]
theorem refSame4 (n : Nat) (a b : ModD) (t6 : Int) (x y : FnD) (hl : x.2.2.2.2.length = y.2.2.2.2.length) (h3 : x.2.2.2.2.length ≤ 5000) (hn : 6000 ≤ n) :
  ((x.2.2.2.2.zip y.2.2.2.2).all (fun q => eqI q.1 q.2) = true ∧ qu_W4 n ((t6, 0), (mtup a, (mtup b, (x, y)))) = some (Sum.inr (t6, (mtup a, (mtup b, (x, y)))))) ∨
  ((x.2.2.2.2.zip y.2.2.2.2).all (fun q => eqI q.1 q.2) = false ∧ ∃ (i : Nat) (x' y' : InD), qu_W4 n ((t6, 0), (mtup a, (mtup b, (x, y)))) = some (Sum.inl (false, (mtup a, (mtup b, (x, y)))))) := by
 refine zbC (B := fun s => qu_B4 n s.1.1 s.1.2 s.2.1.1 s.2.1.2.1 s.2.1.2.2.1 s.2.1.2.2.2.1 s.2.1.2.2.2.2 s.2.2.1.1 s.2.2.1.2.1 s.2.2.1.2.2.1 s.2.2.1.2.2.2.1 s.2.2.1.2.2.2.2 s.2.2.2.1.1 s.2.2.2.1.2.1 s.2.2.2.1.2.2.1 s.2.2.2.1.2.2.2.1 s.2.2.2.1.2.2.2.2 s.2.2.2.2.1 s.2.2.2.2.2.1 s.2.2.2.2.2.2.1 s.2.2.2.2.2.2.2.1 s.2.2.2.2.2.2.2.2) (mk := fun (i : Nat) => ((t6, (i : Int)), (mtup a, (mtup b, (x, y))))) (p := eqI) (found := fun i x' y' => Sum.inl (false, (mtup a, (mtup b, (x, y))))) (e := Sum.inr (t6, (mtup a, (mtup b, (x, y))))) hl (fun i x' y' hx hy => ?_) ?_ n (by omega)
 ·have hi := zj hx
  show qu_B4 n t6 (i : Int) a.recs a.funcs a.imps a.ints a.texts b.recs b.funcs b.imps b.ints b.texts x.1 x.2.1 x.2.2.1 x.2.2.2.1 x.2.2.2.2 y.1 y.2.1 y.2.2.1 y.2.2.2.1 y.2.2.2.2 = _
  unfold qu_B4
  rw [zd, decide_eq_true (by omega), cond_true, zo, hx, Option.bind_some, zo, hy, Option.bind_some, zk (by omega)]
  show (bif !eqI x' y' then _ else _) = _
  cases eqI x' y' <;> rfl
 ·show qu_B4 n t6 (x.2.2.2.2.length : Int) a.recs a.funcs a.imps a.ints a.texts b.recs b.funcs b.imps b.ints b.texts x.1 x.2.1 x.2.2.1 x.2.2.2.1 x.2.2.2.2 y.1 y.2.1 y.2.2.1 y.2.2.2.1 y.2.2.2.2 = _
  unfold qu_B4
  rw [zd, decide_eq_false (by omega), cond_false]
def eqFr (x y : FnD) : Bool := eqL eqT x.1 y.1 && (((x.2.1 == y.2.1) && (x.2.2.1 == y.2.2.1)) && (eqL eqT x.2.2.2.1 y.2.2.2.1 && eqL eqI x.2.2.2.2 y.2.2.2.2))
theorem znQ : eqFr = eqF := by
 funext x y
 unfold eqFr eqF
 cases eqL eqT x.1 y.1 <;> cases ((x.2.1 == y.2.1) && (x.2.2.1 == y.2.2.1)) <;> rfl
def eqMr (x y : ImD) : Bool := eqL eqT x.1 y.1 && ((x.2.1 == y.2.1) && (x.2.2 == y.2.2))
theorem znX : eqMr = eqM := by
 funext x y
 unfold eqMr eqM
 cases eqL eqT x.1 y.1 <;> cases ((x.2.1 == y.2.1) && (x.2.2 == y.2.2)) <;> rfl
theorem refSame2 (n : Nat) (a b : ModD) (hl : a.funcs.length = b.funcs.length) (hL : LightM a) (hn : 6000 ≤ n) :
  ((a.funcs.zip b.funcs).all (fun q => eqFr q.1 q.2) = true ∧ qu_W2 n (0, (mtup a, mtup b)) = some (Sum.inr (mtup a, mtup b))) ∨
  ((a.funcs.zip b.funcs).all (fun q => eqFr q.1 q.2) = false ∧ ∃ (i : Nat) (x y : FnD), qu_W2 n (0, (mtup a, mtup b)) = some (Sum.inl (false, (mtup a, (mtup b, (x, y)))))) := by
 have l2 := hL.n2
 refine zbC (B := fun s => qu_B2 n s.1 s.2.1.1 s.2.1.2.1 s.2.1.2.2.1 s.2.1.2.2.2.1 s.2.1.2.2.2.2 s.2.2.1 s.2.2.2.1 s.2.2.2.2.1 s.2.2.2.2.2.1 s.2.2.2.2.2.2) (mk := fun (i : Nat) => ((i : Int), (mtup a, mtup b))) (p := eqFr) (found := fun i x y => Sum.inl (false, (mtup a, (mtup b, (x, y))))) (e := Sum.inr (mtup a, mtup b)) hl (fun i x y hx hy => ?_) ?_ n (by omega)
 ·have hi := zj hx
  show qu_B2 n (i : Int) a.recs a.funcs a.imps a.ints a.texts b.recs b.funcs b.imps b.ints b.texts = _
  unfold qu_B2
  rw [zd, decide_eq_true (by omega), cond_true, zo, hx, Option.bind_some, zo, hy, Option.bind_some]
  have h3 := hL.funcs x (List.mem_of_getElem? hx)
  rw [qbd_eq n x.1 y.1 (by omega) hn, Option.bind_some, qbd_eq n x.2.2.2.1 y.2.2.2.1 (by omega) hn, Option.bind_some, lenNe]
  unfold eqFr
  cases h1 : eqL eqT x.1 y.1 with
  | false => rfl
  | true =>
  cases h2 : ((x.2.1 == y.2.1) && (x.2.2.1 == y.2.2.1)) with
  | false => rfl
  | true =>
  cases h4 : eqL eqT x.2.2.2.1 y.2.2.2.1 with
  | false => rfl
  | true =>
  by_cases h5 : x.2.2.2.2.length = y.2.2.2.2.length
  ·rw [decide_eq_true h5]
   unfold eqL
   rw [decide_eq_true h5]
   rcases refSame4 n a b (i : Int) x y h5 (by omega) hn with ⟨h6, h7⟩ | ⟨h6, _, _, _, h7⟩
   ·rw [h6]
    simp only [Bool.not_true, cond_false, Bool.true_and, if_true]
    show ((qu_W4 n (((i : Int), 0), (mtup a, (mtup b, (x, y))))).bind _) = _
    rw [h7]
    show some (Sum.inl (addI .i64 (i : Int) 1, (mtup a, mtup b))) = _
    rw [zk (by omega)]
   ·rw [h6]
    simp only [Bool.not_true, cond_false, Bool.true_and]
    show ((qu_W4 n (((i : Int), 0), (mtup a, (mtup b, (x, y))))).bind _) = _
    rw [h7]
    rfl
  ·rw [decide_eq_false h5]
   unfold eqL
   rw [decide_eq_false h5]
   rfl
 ·show qu_B2 n (a.funcs.length : Int) a.recs a.funcs a.imps a.ints a.texts b.recs b.funcs b.imps b.ints b.texts = _
  unfold qu_B2
  rw [zd, decide_eq_false (by omega), cond_false]
theorem refSame6 (n : Nat) (a b : ModD) (hl : a.imps.length = b.imps.length) (hL : LightM a) (hn : 6000 ≤ n) :
  ((a.imps.zip b.imps).all (fun q => eqMr q.1 q.2) = true ∧ qu_W6 n (0, (mtup a, mtup b)) = some (Sum.inr (mtup a, mtup b))) ∨
  ((a.imps.zip b.imps).all (fun q => eqMr q.1 q.2) = false ∧ ∃ (i : Nat) (x y : ImD), qu_W6 n (0, (mtup a, mtup b)) = some (Sum.inl (false, (mtup a, mtup b)))) := by
 have l3 := hL.n3
 refine zbC (B := fun s => qu_B6 n s.1 s.2.1.1 s.2.1.2.1 s.2.1.2.2.1 s.2.1.2.2.2.1 s.2.1.2.2.2.2 s.2.2.1 s.2.2.2.1 s.2.2.2.2.1 s.2.2.2.2.2.1 s.2.2.2.2.2.2) (mk := fun (i : Nat) => ((i : Int), (mtup a, mtup b))) (p := eqMr) (found := fun i x y => Sum.inl (false, (mtup a, mtup b))) (e := Sum.inr (mtup a, mtup b)) hl (fun i x y hx hy => ?_) ?_ n (by omega)
 ·have hi := zj hx
  show qu_B6 n (i : Int) a.recs a.funcs a.imps a.ints a.texts b.recs b.funcs b.imps b.ints b.texts = _
  unfold qu_B6
  rw [zd, decide_eq_true (by omega), cond_true, zo, hx, Option.bind_some, zo, hy, Option.bind_some]
  have h3 := hL.imps x (List.mem_of_getElem? hx)
  rw [qbd_eq n x.1 y.1 (by omega) hn, Option.bind_some, Option.bind_some, Option.bind_some, zk (by omega)]
  unfold eqMr
  cases eqL eqT x.1 y.1 <;> cases ((x.2.1 == y.2.1) && (x.2.2 == y.2.2)) <;> rfl
 ·show qu_B6 n (a.imps.length : Int) a.recs a.funcs a.imps a.ints a.texts b.recs b.funcs b.imps b.ints b.texts = _
  unfold qu_B6
  rw [zd, decide_eq_false (by omega), cond_false]
theorem refSame8 (n : Nat) (a b : ModD) (hl : a.ints.length = b.ints.length) (hL : LightM a) (hn : 6000 ≤ n) :
  ((a.ints.zip b.ints).all (fun q => eqN q.1 q.2) = true ∧ qu_W8 n (0, (mtup a, mtup b)) = some (Sum.inr (mtup a, mtup b))) ∨
  ((a.ints.zip b.ints).all (fun q => eqN q.1 q.2) = false ∧ ∃ (i : Nat) (x y : Int), qu_W8 n (0, (mtup a, mtup b)) = some (Sum.inl (false, (mtup a, mtup b)))) := by
 have l4 := hL.n4
 refine zbC (B := fun s => qu_B8 n s.1 s.2.1.1 s.2.1.2.1 s.2.1.2.2.1 s.2.1.2.2.2.1 s.2.1.2.2.2.2 s.2.2.1 s.2.2.2.1 s.2.2.2.2.1 s.2.2.2.2.2.1 s.2.2.2.2.2.2) (mk := fun (i : Nat) => ((i : Int), (mtup a, mtup b))) (p := eqN) (found := fun i x y => Sum.inl (false, (mtup a, mtup b))) (e := Sum.inr (mtup a, mtup b)) hl (fun i x y hx hy => ?_) ?_ n (by omega)
 ·have hi := zj hx
  show qu_B8 n (i : Int) a.recs a.funcs a.imps a.ints a.texts b.recs b.funcs b.imps b.ints b.texts = _
  unfold qu_B8
  rw [zd, decide_eq_true (by omega), cond_true, zo, hx, Option.bind_some, zo, hy, Option.bind_some]
  rw [zk (by omega)]
  show (bif !eqN x y then _ else _) = _
  cases eqN x y <;> rfl
 ·show qu_B8 n (a.ints.length : Int) a.recs a.funcs a.imps a.ints a.texts b.recs b.funcs b.imps b.ints b.texts = _
  unfold qu_B8
  rw [zd, decide_eq_false (by omega), cond_false]
theorem refSame10 (n : Nat) (a b : ModD) (hl : a.texts.length = b.texts.length) (hL : LightM a) (hn : 6000 ≤ n) :
  ((a.texts.zip b.texts).all (fun q => eqS q.1 q.2) = true ∧ qu_W10 n (0, (mtup a, mtup b)) = some (Sum.inr (mtup a, mtup b))) ∨
  ((a.texts.zip b.texts).all (fun q => eqS q.1 q.2) = false ∧ ∃ (i : Nat) (x y : ByteArray), qu_W10 n (0, (mtup a, mtup b)) = some (Sum.inl (false, (mtup a, mtup b)))) := by
 have l5 := hL.n5
 refine zbC (B := fun s => qu_B10 n s.1 s.2.1.1 s.2.1.2.1 s.2.1.2.2.1 s.2.1.2.2.2.1 s.2.1.2.2.2.2 s.2.2.1 s.2.2.2.1 s.2.2.2.2.1 s.2.2.2.2.2.1 s.2.2.2.2.2.2) (mk := fun (i : Nat) => ((i : Int), (mtup a, mtup b))) (p := eqS) (found := fun i x y => Sum.inl (false, (mtup a, mtup b))) (e := Sum.inr (mtup a, mtup b)) hl (fun i x y hx hy => ?_) ?_ n (by omega)
 ·have hi := zj hx
  show qu_B10 n (i : Int) a.recs a.funcs a.imps a.ints a.texts b.recs b.funcs b.imps b.ints b.texts = _
  unfold qu_B10
  rw [zd, decide_eq_true (by omega), cond_true, zo, hx, Option.bind_some, zo, hy, Option.bind_some]
  rw [zk (by omega)]
  cases eqS x y <;> rfl
 ·show qu_B10 n (a.texts.length : Int) a.recs a.funcs a.imps a.ints a.texts b.recs b.funcs b.imps b.ints b.texts = _
  unfold qu_B10
  rw [zd, decide_eq_false (by omega), cond_false]
theorem zlb (n : Nat) (a b : ModD) (hL : LightM a) (hn : 6000 ≤ n) : qu n a.recs a.funcs a.imps a.ints a.texts b.recs b.funcs b.imps b.ints b.texts = some (sameV a b) := by
 unfold qu sameV eqL
 rw [lenNe, lenNe, lenNe, lenNe, lenNe]
 by_cases h1 : a.recs.length = b.recs.length
 ·by_cases h2 : a.funcs.length = b.funcs.length
  ·by_cases h3 : a.imps.length = b.imps.length
   ·by_cases h4 : a.ints.length = b.ints.length
    ·by_cases h5 : a.texts.length = b.texts.length
     ·rw [decide_eq_true h1, decide_eq_true h2, decide_eq_true h3, decide_eq_true h4, decide_eq_true h5]
      simp only [Bool.not_true, cond_false, Bool.true_and]
      have r2 := refSame2 n a b h2 hL hn
      have r6 := refSame6 n a b h3 hL hn
      rw [znQ] at r2
      rw [znX] at r6
      rcases refSame0 n a b h1 hL hn with ⟨e, r⟩ | ⟨e, _, _, _, r⟩
      ·rw [e, show qu_W0 n (0, _) = _ from r, Bool.true_and]
       rcases r2 with ⟨e, r⟩ | ⟨e, _, _, _, r⟩
       ·rw [e, Bool.true_and]
        show ((qu_W2 n (0, (mtup a, mtup b))).bind _) = _
        rw [r]
        rcases r6 with ⟨e, r⟩ | ⟨e, _, _, _, r⟩
        ·rw [e, Bool.true_and]
         show ((qu_W6 n (0, (mtup a, mtup b))).bind _) = _
         rw [r]
         rcases refSame8 n a b h4 hL hn with ⟨e, r⟩ | ⟨e, _, _, _, r⟩
         ·rw [e, Bool.true_and]
          show ((qu_W8 n (0, (mtup a, mtup b))).bind _) = _
          rw [r]
          rcases refSame10 n a b h5 hL hn with ⟨e, r⟩ | ⟨e, _, _, _, r⟩
          ·rw [e]
           show ((qu_W10 n (0, (mtup a, mtup b))).bind _) = _
           rw [r]; rfl
          ·rw [e]
           show ((qu_W10 n (0, (mtup a, mtup b))).bind _) = _
           rw [r]; rfl
         ·rw [e, Bool.false_and]
          show ((qu_W8 n (0, (mtup a, mtup b))).bind _) = _
          rw [r]; rfl
        ·rw [e, Bool.false_and]
         show ((qu_W6 n (0, (mtup a, mtup b))).bind _) = _
         rw [r]; rfl
       ·rw [e, Bool.false_and]
        show ((qu_W2 n (0, (mtup a, mtup b))).bind _) = _
        rw [r]; rfl
      ·rw [e, show qu_W0 n (0, _) = _ from r, Bool.false_and]; rfl
     ·rw [decide_eq_false h5]; simp [h1, h2, h3, h4]
    ·rw [decide_eq_false h4]; simp [h1, h2, h3]
   ·rw [decide_eq_false h3]; simp [h1, h2]
  ·rw [decide_eq_false h2]; simp [h1]
 ·rw [decide_eq_false h1]; simp
end Sx
end
section
/- The statement on modules that are the same. -/
set_option linter.unusedVariables false
set_option linter.unusedSimpArgs false
set_option maxRecDepth 100000
namespace Sx
open Go Go.Ab
theorem answers6 : qbc 10000 = some true := by kernel_rfl
theorem zeK (x : TyD) : eqT x x = true := by simp [eqT]
theorem zmY (x : InD) : eqI x x = true := by simp [eqI]
theorem zmF (l : List TyD) : eqTs l l = true := zay l fun x _ => zeK x
theorem zns (x : FnD) : eqF x x = true := by
 unfold eqF
 rw [zay x.1 fun x _ => zeK x, zay x.2.2.2.1 fun x _ => zeK x, zay x.2.2.2.2 fun x _ => zmY x]
 simp
theorem znk (x : ImD) : eqM x x = true := by
 unfold eqM
 rw [zay x.1 fun x _ => zeK x]
 simp
theorem zll (a : ModD) : sameV a a = true := by
 unfold sameV
 rw [zay a.recs fun x _ => zmF x, zay a.funcs fun x _ => zns x, zay a.imps fun x _ => znk x, zay a.ints fun x _ => by simp [eqN], zay a.texts fun x _ => by simp [eqS]]
 rfl
end Sx
end
section
/- Readers: what the printed functions come to. -/
set_option linter.unusedVariables false
set_option linter.unusedSimpArgs false
namespace Sx
open Go Go.Ab
def takeV (k : Int) (xs : List Int) (bad : Bool) : List Int × List Int × Bool :=
 if bad = true ∨ k < 0 ∨ k > xs.length then ([], xs, true) else (xs.take k.toNat, xs.drop k.toNat, false)
theorem zdz (n : Nat) (k : Int) (xs : List Int) (bad : Bool) (hx : xs.length ≤ 4294967296) : qaw n k xs bad = some (takeV k xs bad) := by
 unfold qaw takeV
 simp only [qbf, qau, Option.bind_some]
 cases bad with
 | true => rfl
 | false =>
  simp only [cond_false, Bool.false_eq_true, false_or]
  by_cases h1 : k < 0
  ·rw [decide_eq_true h1, if_pos (.inl h1)]; rfl
  ·rw [decide_eq_false h1, cond_false, zd]
   by_cases h2 : k > (xs.length : Int)
   ·rw [decide_eq_true h2, if_pos (.inr h2)]; rfl
   ·rw [decide_eq_false h2, if_neg (by omega), cond_false, decide_eq_true (by omega : (0 : Int) ≤ k), decide_eq_true (by omega : k ≤ ((xs.length : Nat) : Int)), zn (by rw [List.length_take]; omega)]
    simp only [Bool.and_self, cond_true, List.take_length]
theorem zfg (k : Int) (xs : List Int) (bad : Bool) : (takeV k xs bad).2.1.length ≤ xs.length ∧ (takeV k xs bad).1.length ≤ xs.length := by
 unfold takeV
 split
 ·exact ⟨Nat.le_refl _, by simp⟩
 ·exact ⟨by simp, by simp; omega⟩
theorem mul7 : ∀ k : Nat, k ≤ 9 → (decide (0 ≤ mulI .i64 7 (k : Int))) = true ∧ mulI .i64 7 (k : Int) = ((7 * k : Nat) : Int) := by decide
def vstep (v x : Int) (k : Nat) : Int := orI .u64 v (shlI .u64 (cvtI .u64 (andNotI .u8 x 128)) ((7 * k : Nat) : Int))
def varR : List Int → Nat → Int → Int × List Int × Bool
 | [], _, _ => (0, [], true)
 | x :: xs, k, v => if (k = 9 ∧ x > 1) ∨ (k > 0 ∧ x = 0) then (0, xs, true) else if x < 128 then (vstep v x k, xs, false) else varR xs (k + 1) (vstep v x k)
def varV (xs : List Int) (bad : Bool) : Int × List Int × Bool := if bad = true then (0, xs, true) else varR xs 0 0
theorem zka (n : Nat) : ∀ (xs : List Int) (k : Nat) (v : Int) (m : Nat), k ≤ 9 → xs.length ≤ 4294967296 → 10 - k < m → loopS (fun s => qbb_B0 n s.1.1 s.1.2 s.2.1 s.2.2) m ((v, (k : Int)), (xs, false)) = some (varR xs k v)
 | [], k, v, m + 1, hk, hx, hm => by
  refine zr ?_
  show qbb_B0 n v (k : Int) [] false = _
  unfold qbb_B0
  rw [zdz n 1 [] false (by simp), Option.bind_some]
  rfl
 | x :: xs, k, v, m + 1, hk, hx, hm => by
  have ht : takeV 1 (x :: xs) false = ([x], xs, false) := by
   unfold takeV
   rw [if_neg (by simp; omega)]
   rfl
  have hB : qbb_B0 n v (k : Int) (x :: xs) false = if (k = 9 ∧ x > 1) ∨ (k > 0 ∧ x = 0) then some (Sum.inr (0, (xs, true))) else if x < 128 then some (Sum.inr (vstep v x k, (xs, false))) else some (Sum.inl ((vstep v x k, ((k + 1 : Nat) : Int)), (xs, false))) := by
   unfold qbb_B0
   rw [zdz n 1 (x :: xs) false hx, ht, Option.bind_some]
   simp only [qau, Option.bind_some]
   rw [show getI [x] 0 = some x from rfl, show (lenI [x] == 0) = false from rfl, cond_false, Option.bind_some, (mul7 k hk).1, (mul7 k hk).2, zk (by omega)]
   simp only [cond_true]
   have e9 : ((k : Int) == 9) = decide (k = 9) := by
    by_cases h : k = 9
    ·subst h; rfl
    ·rw [decide_eq_false h, beq_eq_false_iff_ne]; omega
   have e0 : decide ((k : Int) > 0) = decide (k > 0) := by
    by_cases h : k > 0
    ·rw [decide_eq_true h, decide_eq_true (by omega)]
    ·rw [decide_eq_false h, decide_eq_false (by omega)]
   rw [e9, e0]
   unfold vstep
   by_cases h9 : k = 9
   ·subst h9
    by_cases hx1 : x > 1
    ·rw [if_pos (.inl ⟨rfl, hx1⟩), decide_eq_true hx1]; rfl
    ·by_cases hx0 : x = 0
     ·subst hx0; rw [if_pos (.inr ⟨by omega, rfl⟩)]; rfl
     ·rw [if_neg (by omega), decide_eq_false hx1, show (x == 0) = false from beq_eq_false_iff_ne.2 hx0, if_pos (by omega), decide_eq_true (by omega : x < 128)]; rfl
   ·rw [decide_eq_false h9, cond_false]
    by_cases hk0 : k > 0
    ·rw [decide_eq_true hk0, cond_true]
     by_cases hx0 : x = 0
     ·subst hx0; rw [if_pos (.inr ⟨hk0, rfl⟩)]; rfl
     ·rw [if_neg (by omega), show (x == 0) = false from beq_eq_false_iff_ne.2 hx0, cond_false]
      by_cases h128 : x < 128
      ·rw [if_pos h128, decide_eq_true h128]; rfl
      ·rw [if_neg h128, decide_eq_false h128]; rfl
    ·rw [decide_eq_false hk0, cond_false, if_neg (by omega)]
     by_cases h128 : x < 128
     ·rw [if_pos h128, decide_eq_true h128]; rfl
     ·rw [if_neg h128, decide_eq_false h128]; rfl
  unfold varR
  by_cases hc : (k = 9 ∧ x > 1) ∨ (k > 0 ∧ x = 0)
  ·rw [if_pos hc] at hB ⊢
   exact zr hB
  ·rw [if_neg hc] at hB ⊢
   by_cases h128 : x < 128
   ·rw [if_pos h128] at hB ⊢
    exact zr hB
   ·rw [if_neg h128] at hB ⊢
    have hk9 : k ≠ 9 := by intro h; apply hc; left; exact ⟨h, by omega⟩
    rw [zB (s := ((v, (k : Int)), (x :: xs, false))) hB]
    exact zka n xs (k + 1) (vstep v x k) m (by omega) (by simp at hx; omega) (by omega)
 | _, _, _, 0, _, _, hm => by omega
theorem zer (n : Nat) (xs : List Int) (bad : Bool) (hx : xs.length ≤ 4294967296) (hn : 20 ≤ n) : qbb n xs bad = some (varV xs bad) := by
 unfold qbb varV
 cases bad with
 | true =>
  have hB : qbb_B0 n 0 0 xs true = some (Sum.inr (0, (xs, true))) := by
   unfold qbb_B0
   rw [zdz n 1 xs true hx, Option.bind_some]
   rfl
  have : qbb_W0 n ((0, 0), (xs, true)) = some (0, (xs, true)) := by
   obtain ⟨m, rfl⟩ : ∃ m, n = m + 1 := ⟨n - 1, by omega⟩
   exact zr hB
  rw [this]; rfl
 | false =>
  have : qbb_W0 n ((0, 0), (xs, false)) = some (varR xs 0 0) := zka n xs 0 0 n (by omega) hx (by omega)
  rw [this]; rfl
theorem ziN (a b : Int) : 0 ≤ orI .u64 a b ∧ orI .u64 a b ≤ 18446744073709551615 := by
 have h : ∀ n, IntKind.u64.wrap n = n % 18446744073709551616 := fun n => by simp [IntKind.wrap, IntKind.bits, IntKind.signed]
 unfold orI
 rw [h]
 omega
theorem zkI : ∀ (xs : List Int) (k : Nat) (v : Int), (varR xs k v).2.1.length ≤ xs.length
 | [], k, v => Nat.le_refl _
 | x :: xs, k, v => by
  unfold varR
  split
  ·simp
  ·split
   ·simp
   ·have := zkI xs (k + 1) (vstep v x k)
    simp; omega
theorem zgv : ∀ (xs : List Int) (k : Nat) (v : Int), 0 ≤ (varR xs k v).1 ∧ (varR xs k v).1 ≤ 18446744073709551615
 | [], k, v => by simp [varR]
 | x :: xs, k, v => by
  unfold varR
  split
  ·simp
  ·split
   ·exact ziN _ _
   ·exact zgv xs (k + 1) (vstep v x k)
theorem zaA (xs : List Int) (bad : Bool) : (varV xs bad).2.1.length ≤ xs.length := by
 unfold varV
 split
 ·exact Nat.le_refl _
 ·exact zkI xs 0 0
theorem zQ (xs : List Int) (bad : Bool) : 0 ≤ (varV xs bad).1 ∧ (varV xs bad).1 ≤ 18446744073709551615 := by
 unfold varV
 split
 ·simp
 ·exact zgv xs 0 0
def countV (most : Int) (bad : Bool) (xs : List Int) (b : Bool) : Int × Bool × List Int × Bool :=
 if (varV xs b).2.2 = true ∨ (varV xs b).1 > most then (0, true, (varV xs b).2) else ((varV xs b).1, bad, (varV xs b).2)
theorem zZ (most : Int) (bad : Bool) (xs : List Int) (b : Bool) : (countV most bad xs b).2.2.1.length ≤ xs.length := by
 unfold countV
 split <;> exact zaA xs b
theorem zag (most : Int) (hm : 0 ≤ most) (bad : Bool) (xs : List Int) (b : Bool) : 0 ≤ (countV most bad xs b).1 ∧ (countV most bad xs b).1 ≤ most := by
 unfold countV
 have := zQ xs b
 split
 ·simp; exact hm
 ·rename_i h
  constructor
  ·exact this.1
  ·have := fun h' => h (.inr h')
   simp only at this ⊢
   omega
theorem zaL (n : Nat) (most : Int) (recs : Int) (bad : Bool) (xs : List Int) (b : Bool) (hm : 0 ≤ most ∧ most ≤ 1000) (hx : xs.length ≤ 4294967296) (hn : 20 ≤ n) :
  qk n most recs bad xs b = some ((countV most bad xs b).1, ((recs, (countV most bad xs b).2.1), (countV most bad xs b).2.2)) := by
 unfold qk countV
 have hr := zQ xs b
 rw [zer n xs b hx hn]
 simp only [qbf, Option.bind_some]
 rw [zA hm.1 (by omega)]
 cases hb : (varV xs b).2.2 with
 | true => rw [if_pos (.inl rfl)]; simp only [cond_true]; rw [← hb]
 | false =>
  simp only [cond_false, Bool.false_eq_true, false_or]
  by_cases h : (varV xs b).1 > most
  ·rw [if_pos h, decide_eq_true h]; simp only [cond_true]; rw [← hb]
  ·rw [if_neg h, decide_eq_false h, zaP (by omega) (by omega)]; simp only [cond_false]; rw [← hb]
def rlistV {A : Type} (one : Bool → List Int → Bool → A × Bool × List Int × Bool) : Nat → List A → Bool → List Int → Bool → List A × Bool × List Int × Bool
 | 0, acc, bad, xs, b => (acc, bad, xs, b)
 | j + 1, acc, bad, xs, b => if bad = true then (acc, bad, xs, b) else rlistV one j (acc ++ [(one bad xs b).1]) (one bad xs b).2.1 (one bad xs b).2.2.1 (one bad xs b).2.2.2
theorem zaM {A S X : Type} {B : S → Option (S ⊕ X)} {mk : Nat → List A → Bool → List Int → Bool → S} {fin : List A × Bool × List Int × Bool → X} {one : Bool → List Int → Bool → A × Bool × List Int × Bool} {t M : Nat}
  (h1 : ∀ bad xs b, (one bad xs b).2.2.1.length ≤ xs.length)
  (hB : ∀ i acc bad xs b, i < t → acc.length = i → xs.length ≤ M → B (mk i acc bad xs b) = if bad = true then some (.inr (fin (acc, bad, xs, b))) else some (.inl (mk (i + 1) (acc ++ [(one bad xs b).1]) (one bad xs b).2.1 (one bad xs b).2.2.1 (one bad xs b).2.2.2)))
  (he : ∀ acc bad xs b, B (mk t acc bad xs b) = some (.inr (fin (acc, bad, xs, b)))) : ∀ (j i n : Nat) (acc : List A) (bad : Bool) (xs : List Int) (b : Bool), i + j = t → j < n → acc.length = i → xs.length ≤ M →
  loopS B n (mk i acc bad xs b) = some (fin (rlistV one j acc bad xs b))
 | 0, i, n + 1, acc, bad, xs, b, hi, hn, ha, hx => by
  obtain rfl : i = t := by omega
  exact zr (he acc bad xs b)
 | j + 1, i, n + 1, acc, bad, xs, b, hi, hn, ha, hx => by
  have h := hB i acc bad xs b (by omega) ha hx
  unfold rlistV
  cases bad with
  | true => exact zr h
  | false =>
   rw [if_neg (by simp)] at h ⊢
   rw [zB h]
   exact zaM h1 hB he j (i + 1) n _ _ _ _ (by omega) (by omega) (by simp [ha]) (Nat.le_trans (h1 _ _ _) hx)
 | _, _, 0, _, _, _, _, _, hn, _, _ => by omega
theorem zhj {A : Type} {one : Bool → List Int → Bool → A × Bool × List Int × Bool} (h1 : ∀ bad xs b, (one bad xs b).2.2.1.length ≤ xs.length) : ∀ (j : Nat) (acc : List A) (bad : Bool) (xs : List Int) (b : Bool), (rlistV one j acc bad xs b).2.2.1.length ≤ xs.length
 | 0, acc, bad, xs, b => Nat.le_refl _
 | j + 1, acc, bad, xs, b => by
  unfold rlistV
  split
  ·exact Nat.le_refl _
  ·exact Nat.le_trans (zhj h1 j _ _ _ _) (h1 _ _ _)
theorem zgS {A : Type} {one : Bool → List Int → Bool → A × Bool × List Int × Bool} {p : A → Prop} (h1 : ∀ bad xs b, p (one bad xs b).1) : ∀ (j : Nat) (acc : List A) (bad : Bool) (xs : List Int) (b : Bool), (∀ x ∈ acc, p x) → ∀ x ∈ (rlistV one j acc bad xs b).1, p x
 | 0, acc, bad, xs, b, h => h
 | j + 1, acc, bad, xs, b, h => by
  unfold rlistV
  split
  ·exact h
  ·exact zgS h1 j _ _ _ _ (fun x hx => by
    rcases List.mem_append.1 hx with hx | hx
    ·exact h x hx
    ·rw [List.mem_singleton.1 hx]; exact h1 _ _ _)
def clistV {A : Type} (one : Bool → List Int → Bool → A × Bool × List Int × Bool) (most : Int) (bad : Bool) (xs : List Int) (b : Bool) : List A × Bool × List Int × Bool :=
 rlistV one (countV most bad xs b).1.toNat [] (countV most bad xs b).2.1 (countV most bad xs b).2.2.1 (countV most bad xs b).2.2.2
theorem zap {A : Type} {one : Bool → List Int → Bool → A × Bool × List Int × Bool} (h1 : ∀ bad xs b, (one bad xs b).2.2.1.length ≤ xs.length) (most : Int) (bad : Bool) (xs : List Int) (b : Bool) : (clistV one most bad xs b).2.2.1.length ≤ xs.length :=
 Nat.le_trans (zhj h1 _ _ _ _ _) (zZ most bad xs b)
def getV (recs : Int) (xs : List Int) (b : Bool) : TyD × Bool × List Int × Bool :=
 let r := varV xs b
 let q := varV r.2.1 r.2.2
 if q.2.2 = true ∨ r.1 > 8 ∨ q.1 > 255 ∨ goodV recs (r.1, q.1) = false then ((0, 0), false, q.2) else ((r.1, q.1), true, q.2)
theorem zkL (recs : Int) (xs : List Int) (b : Bool) : (getV recs xs b).2.2.1.length ≤ xs.length := by
 unfold getV
 simp only
 split <;> exact Nat.le_trans (zaA _ _) (zaA xs b)
theorem qcn_eq (n : Nat) (recs : Int) (xs : List Int) (b : Bool) (hx : xs.length ≤ 4294967296) (hn : 20 ≤ n) : qcn n recs xs b = some (((getV recs xs b).1, (getV recs xs b).2.1), (getV recs xs b).2.2) := by
 unfold qcn getV
 have hl := zaA xs b
 rw [zer n xs b hx hn, Option.bind_some, zer n _ _ (by omega) hn]
 simp only [qbf, Option.bind_some]
 have h1 := zQ xs b
 have h2 := zQ (varV xs b).2.1 (varV xs b).2.2
 generalize varV xs b = r at h1 h2 hl ⊢
 generalize varV r.2.1 r.2.2 = q at h2 ⊢
 obtain ⟨v, xs1, b1⟩ := r
 obtain ⟨u, xs2, b2⟩ := q
 simp only at h1 h2 ⊢
 cases b2 with
 | true => rw [if_pos (.inl rfl)]; rfl
 | false =>
  simp only [cond_false, Bool.false_eq_true, false_or]
  by_cases e1 : v > 8
  ·rw [if_pos (.inl e1), decide_eq_true e1]; rfl
  ·rw [decide_eq_false e1, cond_false]
   by_cases e2 : u > 255
   ·rw [if_pos (.inr (.inl e2)), decide_eq_true e2]; rfl
   ·rw [decide_eq_false e2, cond_false, zaP (by omega) (by omega), zaP (by omega) (by omega), show qch n v u recs = some (goodV recs (v, u)) from zeV n (v, u) recs, Option.bind_some]
    cases hg : goodV recs (v, u) with
    | true => rw [if_neg (by simp [e1, e2])]; rfl
    | false => rw [if_pos (by simp)]; rfl
def oneV (recs : Int) (bad : Bool) (xs : List Int) (b : Bool) : TyD × Bool × List Int × Bool := ((getV recs xs b).1, bad || !(getV recs xs b).2.1, (getV recs xs b).2.2)
theorem zls (n : Nat) (recs : Int) (bad : Bool) (xs : List Int) (b : Bool) (hx : xs.length ≤ 4294967296) (hn : 20 ≤ n) : qx n recs bad xs b = some ((oneV recs bad xs b).1, ((recs, (oneV recs bad xs b).2.1), (oneV recs bad xs b).2.2)) := by
 unfold qx oneV
 rw [qcn_eq n recs xs b hx hn, Option.bind_some]
 cases bad <;> rfl
theorem zbl (n : Nat) (most recs : Int) (bad : Bool) (xs : List Int) (b : Bool) (hm : 0 ≤ most ∧ most ≤ 1000) (hx : xs.length ≤ 4294967296) (hn : 2000 ≤ n) :
  qb n most recs bad xs b = some ((clistV (oneV recs) most bad xs b).1, ((recs, (clistV (oneV recs) most bad xs b).2.1), (clistV (oneV recs) most bad xs b).2.2)) := by
 unfold qb
 rw [zaL n most recs bad xs b hm hx (by omega), Option.bind_some]
 unfold clistV
 have hc := zag most hm.1 bad xs b
 have hl := zZ most bad xs b
 generalize countV most bad xs b = c at hc hl ⊢
 obtain ⟨c0, bad1, xs1, b1⟩ := c
 simp only at hc hl ⊢
 obtain ⟨t, rfl⟩ : ∃ t : Nat, c0 = (t : Int) := ⟨c0.toNat, by omega⟩
 have h := zaM (B := fun s => qb_B0 n s.1.1 s.1.2 s.2.1.1 s.2.1.2 s.2.2.1.1 s.2.2.1.2 s.2.2.2) (mk := fun (i : Nat) acc bad xs b => (((t : Int), (i : Int)), ((recs, bad), ((xs, b), acc)))) (fin := fun r => ((recs, r.2.1), (r.2.2, r.1))) (one := oneV recs) (t := t) (M := 4294967296) (fun bad xs b => zkL recs xs b)
  (fun i acc bad xs b hi ha hx => by
   show qb_B0 n (t : Int) (i : Int) recs bad xs b acc = _
   unfold qb_B0
   rw [decide_eq_true (by omega), cond_true, zls n recs bad xs b hx (by omega), Option.bind_some, zk (by omega), zn (by simp; omega), cond_true]
   cases bad <;> rfl)
  (fun acc bad xs b => by
   show qb_B0 n (t : Int) (t : Int) recs bad xs b acc = _
   unfold qb_B0
   rw [decide_eq_false (by omega), cond_false]) t 0 n [] bad1 xs1 b1 (by omega) (by omega) rfl (by omega)
 rw [show qb_W0 n (((t : Int), 0), ((recs, bad1), ((xs1, b1), []))) = _ from h, Option.bind_some]
 rfl
end Sx
end
section
/- Readers: instructions, functions, imports, numbers, texts. -/
set_option linter.unusedVariables false
set_option linter.unusedSimpArgs false
namespace Sx
open Go Go.Ab
noncomputable def fixedV (k : Int) (xs : List Int) (b : Bool) : Int × List Int × Bool := (fixV (takeV (minI (maxI k 0) 8) xs b).1, (takeV (minI (maxI k 0) 8) xs b).2)
theorem zku (n : Nat) (k : Int) (xs : List Int) (b : Bool) (hx : xs.length ≤ 4294967296) : qai n k xs b = some (fixedV k xs b) := by
 unfold qai fixedV
 rw [zdz n _ xs b hx, Option.bind_some]
theorem zec (k : Int) (xs : List Int) (b : Bool) : (fixedV k xs b).2.1.length ≤ xs.length := (zfg _ xs b).1
theorem zlB (l : List Int) : 0 ≤ fixV l ∧ fixV l ≤ 18446744073709551615 := by
 cases l with
 | nil => simp [fixV]
 | cons x l => exact ziN _ _
noncomputable def instV (xs : List Int) (b : Bool) : InD × Bool × List Int × Bool :=
 let f := fixedV 1 xs b
 let op := cvtI .i64 f.1
 if f.2.2 = true ∨ argsV op < 0 then ((0, 0, 0), false, f.2) else
 if argsV op = 0 then ((op, 0, 0), true, f.2) else
 let q := varV f.2.1 f.2.2
 if q.2.2 = true ∨ q.1 > 255 then ((0, 0, 0), false, q.2) else
 if argsV op = 1 then ((op, q.1, 0), true, q.2) else
 let p := varV q.2.1 q.2.2
 if p.2.2 = true ∨ p.1 > 255 then ((0, 0, 0), false, p.2) else ((op, q.1, p.1), true, p.2)
theorem zmC (xs : List Int) (b : Bool) : (instV xs b).2.2.1.length ≤ xs.length := by
 have h1 := zec 1 xs b
 have h2 := zaA (fixedV 1 xs b).2.1 (fixedV 1 xs b).2.2
 have h3 := zaA (varV (fixedV 1 xs b).2.1 (fixedV 1 xs b).2.2).2.1 (varV (fixedV 1 xs b).2.1 (fixedV 1 xs b).2.2).2.2
 unfold instV
 simp only
 split
 ·exact h1
 ·split
  ·exact h1
  ·split
   ·simp only; omega
   ·split
    ·simp only; omega
    ·split <;> (simp only; omega)
theorem zgH (n : Nat) (op t k : Int) (xs : List Int) (b : Bool) (a0 a1 a2 u v : Int) (h : ¬ k < t) : qcp_B0 n op t k xs b a0 a1 a2 u v = some (Sum.inr (Sum.inr (op, ((xs, b), ((a0, (a1, a2)), (u, v)))))) := by
 unfold qcp_B0
 rw [decide_eq_false h, cond_false]
theorem zoo (n : Nat) (op t : Int) (xs : List Int) (b : Bool) (a0 a1 a2 u v : Int) (h : 0 < t) (hx : xs.length ≤ 4294967296) (hn : 20 ≤ n) :
  qcp_B0 n op t 0 xs b a0 a1 a2 u v = if (varV xs b).2.2 = true ∨ (varV xs b).1 > 255 then some (Sum.inr (Sum.inl (false, ((varV xs b).2, ((0, (0, 0)), ((varV xs b).1, v)))))) else some (Sum.inl ((op, (t, 1)), ((varV xs b).2, ((a0, (a1, a2)), ((varV xs b).1, v))))) := by
 unfold qcp_B0
 rw [decide_eq_true h, cond_true, zer n xs b hx hn]
 simp only [qbf, Option.bind_some]
 generalize varV xs b = r
 obtain ⟨w, xs1, b1⟩ := r
 cases b1 with
 | true => rw [if_pos (.inl rfl)]; rfl
 | false =>
  by_cases h2 : w > 255
  ·rw [if_pos (.inr h2), decide_eq_true h2]; rfl
  ·rw [if_neg (by simp [h2]), decide_eq_false h2]; rfl
theorem zon (n : Nat) (op t : Int) (xs : List Int) (b : Bool) (a0 a1 a2 u v : Int) (h : 1 < t) (hx : xs.length ≤ 4294967296) (hn : 20 ≤ n) :
  qcp_B0 n op t 1 xs b a0 a1 a2 u v = if (varV xs b).2.2 = true ∨ (varV xs b).1 > 255 then some (Sum.inr (Sum.inl (false, ((varV xs b).2, ((0, (0, 0)), (u, (varV xs b).1)))))) else some (Sum.inl ((op, (t, 2)), ((varV xs b).2, ((a0, (a1, a2)), (u, (varV xs b).1))))) := by
 unfold qcp_B0
 rw [decide_eq_true h, cond_true, zer n xs b hx hn]
 simp only [qbf, Option.bind_some]
 generalize varV xs b = r
 obtain ⟨w, xs1, b1⟩ := r
 cases b1 with
 | true => rw [if_pos (.inl rfl)]; rfl
 | false =>
  by_cases h2 : w > 255
  ·rw [if_pos (.inr h2), decide_eq_true h2]; rfl
  ·rw [if_neg (by simp [h2]), decide_eq_false h2]; rfl
theorem znO (n : Nat) (xs : List Int) (b : Bool) (hx : xs.length ≤ 4294967296) (hn : 20 ≤ n) : qcp n xs b = some (((instV xs b).1, (instV xs b).2.1), (instV xs b).2.2) := by
 unfold qcp instV
 have h1 := zec 1 xs b
 rw [zku n 1 xs b hx]
 simp only [qbf, Option.bind_some, qci_eq]
 generalize fixedV 1 xs b = f at h1 ⊢
 obtain ⟨v, xs1, b1⟩ := f
 simp only at h1 ⊢
 have h2 := zaA xs1 b1
 cases b1 with
 | true => rw [if_pos (.inl rfl)]; rfl
 | false =>
  simp only [cond_false, Bool.false_eq_true, false_or]
  generalize cvtI .i64 v = op
  by_cases e : argsV op < 0
  ·rw [if_pos e, decide_eq_true e]; rfl
  ·rw [if_neg e, decide_eq_false e, cond_false]
   obtain ⟨m, rfl⟩ : ∃ m, n = m + 3 := ⟨n - 3, by omega⟩
   have hr := zdn op
   by_cases e0 : argsV op = 0
   ·rw [if_pos e0, e0]
    have : qcp_W0 (m + 3) ((op, (0, 0)), ((xs1, false), ((0, (0, 0)), (0, 0)))) = some (Sum.inr (op, ((xs1, false), ((0, (0, 0)), (0, 0))))) := zr (zgH (m + 3) op 0 0 xs1 false 0 0 0 0 0 (by omega))
    rw [this]; rfl
   ·rw [if_neg e0]
    have hB0 := zoo (m + 3) op (argsV op) xs1 false 0 0 0 0 0 (by omega) (by omega) hn
    by_cases c0 : (varV xs1 false).2.2 = true ∨ (varV xs1 false).1 > 255
    ·rw [if_pos c0] at hB0 ⊢
     have : qcp_W0 (m + 3) ((op, (argsV op, 0)), ((xs1, false), ((0, (0, 0)), (0, 0)))) = some (Sum.inl (false, ((varV xs1 false).2, ((0, (0, 0)), ((varV xs1 false).1, 0))))) := zr hB0
     rw [this]; rfl
    ·rw [if_neg c0] at hB0 ⊢
     have hv := zQ xs1 false
     have hq : (varV xs1 false).1 ≤ 255 := Int.not_lt.mp fun h => c0 (.inr h)
     have hl2 := zaA (varV xs1 false).2.1 (varV xs1 false).2.2
     by_cases e1 : argsV op = 1
     ·rw [if_pos e1]
      rw [e1] at hB0 ⊢
      have : qcp_W0 (m + 3) ((op, (1, 0)), ((xs1, false), ((0, (0, 0)), (0, 0)))) = some (Sum.inr (op, ((varV xs1 false).2, ((0, (0, 0)), ((varV xs1 false).1, 0))))) := by
       refine (zB (s := ((op, (1, 0)), ((xs1, false), ((0, (0, 0)), (0, 0))))) hB0).trans (zr ?_)
       exact zgH (m + 3) op 1 1 _ _ 0 0 0 _ 0 (by omega)
      rw [this]
      show some (((op, (cvtI .i64 (varV xs1 false).1, cvtI .i64 0)), true), (varV xs1 false).2) = _
      rw [zaP (by omega) (by omega)]; rfl
     ·rw [if_neg e1]
      have e2 : argsV op = 2 := by omega
      rw [e2] at hB0 ⊢
      have hB1 := zon (m + 3) op 2 (varV xs1 false).2.1 (varV xs1 false).2.2 0 0 0 (varV xs1 false).1 0 (by omega) (by omega) hn
      by_cases c1 : (varV (varV xs1 false).2.1 (varV xs1 false).2.2).2.2 = true ∨ (varV (varV xs1 false).2.1 (varV xs1 false).2.2).1 > 255
      ·rw [if_pos c1] at hB1 ⊢
       have : qcp_W0 (m + 3) ((op, (2, 0)), ((xs1, false), ((0, (0, 0)), (0, 0)))) = some (Sum.inl (false, ((varV (varV xs1 false).2.1 (varV xs1 false).2.2).2, ((0, (0, 0)), ((varV xs1 false).1, (varV (varV xs1 false).2.1 (varV xs1 false).2.2).1))))) :=
        (zB (s := ((op, (2, 0)), ((xs1, false), ((0, (0, 0)), (0, 0))))) hB0).trans (zr hB1)
       rw [this]; rfl
      ·rw [if_neg c1] at hB1 ⊢
       have hv2 := zQ (varV xs1 false).2.1 (varV xs1 false).2.2
       have hq2 : (varV (varV xs1 false).2.1 (varV xs1 false).2.2).1 ≤ 255 := Int.not_lt.mp fun h => c1 (.inr h)
       have : qcp_W0 (m + 3) ((op, (2, 0)), ((xs1, false), ((0, (0, 0)), (0, 0)))) = some (Sum.inr (op, ((varV (varV xs1 false).2.1 (varV xs1 false).2.2).2, ((0, (0, 0)), ((varV xs1 false).1, (varV (varV xs1 false).2.1 (varV xs1 false).2.2).1))))) :=
        (zB (s := ((op, (2, 0)), ((xs1, false), ((0, (0, 0)), (0, 0))))) hB0).trans ((zB (s := ((op, (2, 1)), ((varV xs1 false).2, ((0, (0, 0)), ((varV xs1 false).1, 0))))) hB1).trans (zr (zgH (m + 3) op 2 2 _ _ 0 0 0 _ _ (by omega))))
       rw [this]
       show some (((op, (cvtI .i64 (varV xs1 false).1, cvtI .i64 (varV (varV xs1 false).2.1 (varV xs1 false).2.2).1)), true), (varV (varV xs1 false).2.1 (varV xs1 false).2.2).2) = _
       rw [zaP (by omega) (by omega), zaP (by omega) (by omega)]
theorem zax (recs : Int) (bad : Bool) (xs : List Int) (b : Bool) : (oneV recs bad xs b).2.2.1.length ≤ xs.length := zkL recs xs b
noncomputable def instrV (recs : Int) (bad : Bool) (xs : List Int) (b : Bool) : InD × Bool × List Int × Bool := ((instV xs b).1, bad || !(instV xs b).2.1, (instV xs b).2.2)
theorem zgy (recs : Int) (bad : Bool) (xs : List Int) (b : Bool) : (instrV recs bad xs b).2.2.1.length ≤ xs.length := zmC xs b
theorem zmX (n : Nat) (recs : Int) (bad : Bool) (xs : List Int) (b : Bool) (hx : xs.length ≤ 4294967296) (hn : 2000 ≤ n) : qn n recs bad xs b = some ((instrV recs bad xs b).1, ((recs, (instrV recs bad xs b).2.1), (instrV recs bad xs b).2.2)) := by
 unfold qn instrV
 rw [znO n xs b hx (by omega), Option.bind_some]
 cases bad <;> rfl
theorem qh_eq (n : Nat) (most recs : Int) (bad : Bool) (xs : List Int) (b : Bool) (hm : 0 ≤ most ∧ most ≤ 1000) (hx : xs.length ≤ 4294967296) (hn : 2000 ≤ n) :
  qh n most recs bad xs b = some ((clistV (instrV recs) most bad xs b).1, ((recs, (clistV (instrV recs) most bad xs b).2.1), (clistV (instrV recs) most bad xs b).2.2)) := by
 unfold qh
 rw [zaL n most recs bad xs b hm hx (by omega), Option.bind_some]
 unfold clistV
 have hc := zag most hm.1 bad xs b
 have hl := zZ most bad xs b
 generalize countV most bad xs b = c at hc hl ⊢
 obtain ⟨c0, bad1, xs1, b1⟩ := c
 simp only at hc hl ⊢
 obtain ⟨t, rfl⟩ : ∃ t : Nat, c0 = (t : Int) := ⟨c0.toNat, by omega⟩
 have h := zaM (B := fun s => qh_B0 n s.1.1 s.1.2 s.2.1.1 s.2.1.2 s.2.2.1.1 s.2.2.1.2 s.2.2.2) (mk := fun (i : Nat) acc bad xs b => (((t : Int), (i : Int)), ((recs, bad), ((xs, b), acc)))) (fin := fun r => ((recs, r.2.1), (r.2.2, r.1))) (one := instrV recs) (t := t) (M := 4294967296) (fun bad xs b => zgy recs bad xs b)
  (fun i acc bad xs b hi ha hx => by
   show qh_B0 n (t : Int) (i : Int) recs bad xs b acc = _
   unfold qh_B0
   rw [decide_eq_true (by omega), cond_true, zmX n recs bad xs b hx (by omega), Option.bind_some, zk (by omega), zn (by simp; omega), cond_true]
   cases bad <;> rfl)
  (fun acc bad xs b => by
   show qh_B0 n (t : Int) (t : Int) recs bad xs b acc = _
   unfold qh_B0
   rw [decide_eq_false (by omega), cond_false]) t 0 n [] bad1 xs1 b1 (by omega) (by omega) rfl (by omega)
 rw [show qh_W0 n (((t : Int), 0), ((recs, bad1), ((xs1, b1), []))) = _ from h, Option.bind_some]
 rfl
noncomputable def funcV (recs : Int) (bad : Bool) (xs : List Int) (b : Bool) : FnD × Bool × List Int × Bool :=
 let a := clistV (oneV recs) 4 bad xs b
 let r := oneV recs a.2.1 a.2.2.1 a.2.2.2
 let l := clistV (oneV recs) 8 r.2.1 r.2.2.1 r.2.2.2
 let c := clistV (instrV recs) 64 l.2.1 l.2.2.1 l.2.2.2
 ((a.1, r.1.1, r.1.2, l.1, c.1), c.2)
theorem zmO (recs : Int) (bad : Bool) (xs : List Int) (b : Bool) : (funcV recs bad xs b).2.2.1.length ≤ xs.length := by
 unfold funcV
 simp only
 exact Nat.le_trans (zap (zgy recs) _ _ _ _) (Nat.le_trans (zap (zax recs) _ _ _ _) (Nat.le_trans (zax recs _ _ _) (zap (zax recs) _ _ _ _)))
theorem znS (n : Nat) (recs : Int) (bad : Bool) (xs : List Int) (b : Bool) (hx : xs.length ≤ 4294967296) (hn : 2000 ≤ n) : qa n recs bad xs b = some ((funcV recs bad xs b).1, ((recs, (funcV recs bad xs b).2.1), (funcV recs bad xs b).2.2)) := by
 unfold qa funcV
 have l1 := zap (zax recs) 4 bad xs b
 have l2 := zax recs (clistV (oneV recs) 4 bad xs b).2.1 (clistV (oneV recs) 4 bad xs b).2.2.1 (clistV (oneV recs) 4 bad xs b).2.2.2
 have l3 := zap (zax recs) 8 (oneV recs (clistV (oneV recs) 4 bad xs b).2.1 (clistV (oneV recs) 4 bad xs b).2.2.1 (clistV (oneV recs) 4 bad xs b).2.2.2).2.1 (oneV recs (clistV (oneV recs) 4 bad xs b).2.1 (clistV (oneV recs) 4 bad xs b).2.2.1 (clistV (oneV recs) 4 bad xs b).2.2.2).2.2.1 (oneV recs (clistV (oneV recs) 4 bad xs b).2.1 (clistV (oneV recs) 4 bad xs b).2.2.1 (clistV (oneV recs) 4 bad xs b).2.2.2).2.2.2
 rw [zbl n 4 recs bad xs b (by omega) hx hn, Option.bind_some]
 dsimp only
 rw [zls n recs (clistV (oneV recs) 4 bad xs b).2.1 (clistV (oneV recs) 4 bad xs b).2.2.1 (clistV (oneV recs) 4 bad xs b).2.2.2 (by omega) (by omega), Option.bind_some]
 dsimp only
 rw [zbl n 8 recs (oneV recs (clistV (oneV recs) 4 bad xs b).2.1 (clistV (oneV recs) 4 bad xs b).2.2.1 (clistV (oneV recs) 4 bad xs b).2.2.2).2.1 (oneV recs (clistV (oneV recs) 4 bad xs b).2.1 (clistV (oneV recs) 4 bad xs b).2.2.1 (clistV (oneV recs) 4 bad xs b).2.2.2).2.2.1 (oneV recs (clistV (oneV recs) 4 bad xs b).2.1 (clistV (oneV recs) 4 bad xs b).2.2.1 (clistV (oneV recs) 4 bad xs b).2.2.2).2.2.2 (by omega) (by omega) hn, Option.bind_some]
 dsimp only
 rw [qh_eq n 64 recs (clistV (oneV recs) 8 (oneV recs (clistV (oneV recs) 4 bad xs b).2.1 (clistV (oneV recs) 4 bad xs b).2.2.1 (clistV (oneV recs) 4 bad xs b).2.2.2).2.1 (oneV recs (clistV (oneV recs) 4 bad xs b).2.1 (clistV (oneV recs) 4 bad xs b).2.2.1 (clistV (oneV recs) 4 bad xs b).2.2.2).2.2.1 (oneV recs (clistV (oneV recs) 4 bad xs b).2.1 (clistV (oneV recs) 4 bad xs b).2.2.1 (clistV (oneV recs) 4 bad xs b).2.2.2).2.2.2).2.1 (clistV (oneV recs) 8 (oneV recs (clistV (oneV recs) 4 bad xs b).2.1 (clistV (oneV recs) 4 bad xs b).2.2.1 (clistV (oneV recs) 4 bad xs b).2.2.2).2.1 (oneV recs (clistV (oneV recs) 4 bad xs b).2.1 (clistV (oneV recs) 4 bad xs b).2.2.1 (clistV (oneV recs) 4 bad xs b).2.2.2).2.2.1 (oneV recs (clistV (oneV recs) 4 bad xs b).2.1 (clistV (oneV recs) 4 bad xs b).2.2.1 (clistV (oneV recs) 4 bad xs b).2.2.2).2.2.2).2.2.1 (clistV (oneV recs) 8 (oneV recs (clistV (oneV recs) 4 bad xs b).2.1 (clistV (oneV recs) 4 bad xs b).2.2.1 (clistV (oneV recs) 4 bad xs b).2.2.2).2.1 (oneV recs (clistV (oneV recs) 4 bad xs b).2.1 (clistV (oneV recs) 4 bad xs b).2.2.1 (clistV (oneV recs) 4 bad xs b).2.2.2).2.2.1 (oneV recs (clistV (oneV recs) 4 bad xs b).2.1 (clistV (oneV recs) 4 bad xs b).2.2.1 (clistV (oneV recs) 4 bad xs b).2.2.2).2.2.2).2.2.2 (by omega) (by omega) hn, Option.bind_some]
theorem qp_eq (n : Nat) (most recs : Int) (bad : Bool) (xs : List Int) (b : Bool) (hm : 0 ≤ most ∧ most ≤ 1000) (hx : xs.length ≤ 4294967296) (hn : 2000 ≤ n) :
  qp n most recs bad xs b = some ((clistV (funcV recs) most bad xs b).1, ((recs, (clistV (funcV recs) most bad xs b).2.1), (clistV (funcV recs) most bad xs b).2.2)) := by
 unfold qp
 rw [zaL n most recs bad xs b hm hx (by omega), Option.bind_some]
 unfold clistV
 have hc := zag most hm.1 bad xs b
 have hl := zZ most bad xs b
 generalize countV most bad xs b = c at hc hl ⊢
 obtain ⟨c0, bad1, xs1, b1⟩ := c
 simp only at hc hl ⊢
 obtain ⟨t, rfl⟩ : ∃ t : Nat, c0 = (t : Int) := ⟨c0.toNat, by omega⟩
 have h := zaM (B := fun s => qp_B0 n s.1.1 s.1.2 s.2.1.1 s.2.1.2 s.2.2.1.1 s.2.2.1.2 s.2.2.2) (mk := fun (i : Nat) acc bad xs b => (((t : Int), (i : Int)), ((recs, bad), ((xs, b), acc)))) (fin := fun r => ((recs, r.2.1), (r.2.2, r.1))) (one := funcV recs) (t := t) (M := 4294967296) (fun bad xs b => zmO recs bad xs b)
  (fun i acc bad xs b hi ha hx => by
   show qp_B0 n (t : Int) (i : Int) recs bad xs b acc = _
   unfold qp_B0
   rw [decide_eq_true (by omega), cond_true, znS n recs bad xs b hx (by omega), Option.bind_some, zk (by omega), zn (by simp; omega), cond_true]
   cases bad <;> rfl)
  (fun acc bad xs b => by
   show qp_B0 n (t : Int) (t : Int) recs bad xs b acc = _
   unfold qp_B0
   rw [decide_eq_false (by omega), cond_false]) t 0 n [] bad1 xs1 b1 (by omega) (by omega) rfl (by omega)
 rw [show qp_W0 n (((t : Int), 0), ((recs, bad1), ((xs1, b1), []))) = _ from h, Option.bind_some]
 rfl
def hostV (recs : Int) (bad : Bool) (xs : List Int) (b : Bool) : ImD × Bool × List Int × Bool :=
 let a := clistV (oneV recs) 4 bad xs b
 let r := oneV recs a.2.1 a.2.2.1 a.2.2.2
 ((a.1, r.1.1, r.1.2), r.2)
theorem zmu (recs : Int) (bad : Bool) (xs : List Int) (b : Bool) : (hostV recs bad xs b).2.2.1.length ≤ xs.length := by
 unfold hostV
 simp only
 exact Nat.le_trans (zax recs _ _ _) (zap (zax recs) _ _ _ _)
theorem znM (n : Nat) (recs : Int) (bad : Bool) (xs : List Int) (b : Bool) (hx : xs.length ≤ 4294967296) (hn : 2000 ≤ n) : qs n recs bad xs b = some ((hostV recs bad xs b).1, ((recs, (hostV recs bad xs b).2.1), (hostV recs bad xs b).2.2)) := by
 unfold qs hostV
 have l1 := zap (zax recs) 4 bad xs b
 rw [zbl n 4 recs bad xs b (by omega) hx hn, Option.bind_some]
 dsimp only
 rw [zls n recs (clistV (oneV recs) 4 bad xs b).2.1 (clistV (oneV recs) 4 bad xs b).2.2.1 (clistV (oneV recs) 4 bad xs b).2.2.2 (by omega) (by omega), Option.bind_some]
theorem qd_eq (n : Nat) (most recs : Int) (bad : Bool) (xs : List Int) (b : Bool) (hm : 0 ≤ most ∧ most ≤ 1000) (hx : xs.length ≤ 4294967296) (hn : 2000 ≤ n) :
  qd n most recs bad xs b = some ((clistV (hostV recs) most bad xs b).1, ((recs, (clistV (hostV recs) most bad xs b).2.1), (clistV (hostV recs) most bad xs b).2.2)) := by
 unfold qd
 rw [zaL n most recs bad xs b hm hx (by omega), Option.bind_some]
 unfold clistV
 have hc := zag most hm.1 bad xs b
 have hl := zZ most bad xs b
 generalize countV most bad xs b = c at hc hl ⊢
 obtain ⟨c0, bad1, xs1, b1⟩ := c
 simp only at hc hl ⊢
 obtain ⟨t, rfl⟩ : ∃ t : Nat, c0 = (t : Int) := ⟨c0.toNat, by omega⟩
 have h := zaM (B := fun s => qd_B0 n s.1.1 s.1.2 s.2.1.1 s.2.1.2 s.2.2.1.1 s.2.2.1.2 s.2.2.2) (mk := fun (i : Nat) acc bad xs b => (((t : Int), (i : Int)), ((recs, bad), ((xs, b), acc)))) (fin := fun r => ((recs, r.2.1), (r.2.2, r.1))) (one := hostV recs) (t := t) (M := 4294967296) (fun bad xs b => zmu recs bad xs b)
  (fun i acc bad xs b hi ha hx => by
   show qd_B0 n (t : Int) (i : Int) recs bad xs b acc = _
   unfold qd_B0
   rw [decide_eq_true (by omega), cond_true, znM n recs bad xs b hx (by omega), Option.bind_some, zk (by omega), zn (by simp; omega), cond_true]
   cases bad <;> rfl)
  (fun acc bad xs b => by
   show qd_B0 n (t : Int) (t : Int) recs bad xs b acc = _
   unfold qd_B0
   rw [decide_eq_false (by omega), cond_false]) t 0 n [] bad1 xs1 b1 (by omega) (by omega) rfl (by omega)
 rw [show qd_W0 n (((t : Int), 0), ((recs, bad1), ((xs1, b1), []))) = _ from h, Option.bind_some]
 rfl
noncomputable def u64V (recs : Int) (bad : Bool) (xs : List Int) (b : Bool) : Int × Bool × List Int × Bool := ((fixedV 8 xs b).1, bad, (fixedV 8 xs b).2)
theorem znq (recs : Int) (bad : Bool) (xs : List Int) (b : Bool) : (u64V recs bad xs b).2.2.1.length ≤ xs.length := zec 8 xs b
theorem zoq (n : Nat) (recs : Int) (bad : Bool) (xs : List Int) (b : Bool) (hx : xs.length ≤ 4294967296) (hn : 2000 ≤ n) : qal n recs bad xs b = some ((u64V recs bad xs b).1, ((recs, (u64V recs bad xs b).2.1), (u64V recs bad xs b).2.2)) := by
 unfold qal u64V
 rw [zku n 8 xs b hx, Option.bind_some]
theorem qr_eq (n : Nat) (most recs : Int) (bad : Bool) (xs : List Int) (b : Bool) (hm : 0 ≤ most ∧ most ≤ 1000) (hx : xs.length ≤ 4294967296) (hn : 2000 ≤ n) :
  qr n most recs bad xs b = some ((clistV (u64V recs) most bad xs b).1, ((recs, (clistV (u64V recs) most bad xs b).2.1), (clistV (u64V recs) most bad xs b).2.2)) := by
 unfold qr
 rw [zaL n most recs bad xs b hm hx (by omega), Option.bind_some]
 unfold clistV
 have hc := zag most hm.1 bad xs b
 have hl := zZ most bad xs b
 generalize countV most bad xs b = c at hc hl ⊢
 obtain ⟨c0, bad1, xs1, b1⟩ := c
 simp only at hc hl ⊢
 obtain ⟨t, rfl⟩ : ∃ t : Nat, c0 = (t : Int) := ⟨c0.toNat, by omega⟩
 have h := zaM (B := fun s => qr_B0 n s.1.1 s.1.2 s.2.1.1 s.2.1.2 s.2.2.1.1 s.2.2.1.2 s.2.2.2) (mk := fun (i : Nat) acc bad xs b => (((t : Int), (i : Int)), ((recs, bad), ((xs, b), acc)))) (fin := fun r => ((recs, r.2.1), (r.2.2, r.1))) (one := u64V recs) (t := t) (M := 4294967296) (fun bad xs b => znq recs bad xs b)
  (fun i acc bad xs b hi ha hx => by
   show qr_B0 n (t : Int) (i : Int) recs bad xs b acc = _
   unfold qr_B0
   rw [decide_eq_true (by omega), cond_true, zoq n recs bad xs b hx (by omega), Option.bind_some, zk (by omega), zn (by simp; omega), cond_true]
   cases bad <;> rfl)
  (fun acc bad xs b => by
   show qr_B0 n (t : Int) (t : Int) recs bad xs b acc = _
   unfold qr_B0
   rw [decide_eq_false (by omega), cond_false]) t 0 n [] bad1 xs1 b1 (by omega) (by omega) rfl (by omega)
 rw [show qr_W0 n (((t : Int), 0), ((recs, bad1), ((xs1, b1), []))) = _ from h, Option.bind_some]
 rfl
def textV (recs : Int) (bad : Bool) (xs : List Int) (b : Bool) : ByteArray × Bool × List Int × Bool :=
 let c := countV 32 bad xs b
 let t := takeV c.1 c.2.2.1 c.2.2.2
 (intsBytes t.1, c.2.1, t.2)
theorem zmP (recs : Int) (bad : Bool) (xs : List Int) (b : Bool) : (textV recs bad xs b).2.2.1.length ≤ xs.length := Nat.le_trans (zfg _ _ _).1 (zZ 32 bad xs b)
theorem zog (n : Nat) (recs : Int) (bad : Bool) (xs : List Int) (b : Bool) (hx : xs.length ≤ 4294967296) (hn : 2000 ≤ n) : qar n recs bad xs b = some ((textV recs bad xs b).1, ((recs, (textV recs bad xs b).2.1), (textV recs bad xs b).2.2)) := by
 unfold qar textV
 have := zZ 32 bad xs b
 rw [zaL n 32 recs bad xs b (by omega) hx (by omega), Option.bind_some]
 dsimp only
 rw [zdz n _ _ _ (by omega), Option.bind_some]
theorem qt_eq (n : Nat) (most recs : Int) (bad : Bool) (xs : List Int) (b : Bool) (hm : 0 ≤ most ∧ most ≤ 1000) (hx : xs.length ≤ 4294967296) (hn : 2000 ≤ n) :
  qt n most recs bad xs b = some ((clistV (textV recs) most bad xs b).1, ((recs, (clistV (textV recs) most bad xs b).2.1), (clistV (textV recs) most bad xs b).2.2)) := by
 unfold qt
 rw [zaL n most recs bad xs b hm hx (by omega), Option.bind_some]
 unfold clistV
 have hc := zag most hm.1 bad xs b
 have hl := zZ most bad xs b
 generalize countV most bad xs b = c at hc hl ⊢
 obtain ⟨c0, bad1, xs1, b1⟩ := c
 simp only at hc hl ⊢
 obtain ⟨t, rfl⟩ : ∃ t : Nat, c0 = (t : Int) := ⟨c0.toNat, by omega⟩
 have h := zaM (B := fun s => qt_B0 n s.1.1 s.1.2 s.2.1.1 s.2.1.2 s.2.2.1.1 s.2.2.1.2 s.2.2.2) (mk := fun (i : Nat) acc bad xs b => (((t : Int), (i : Int)), ((recs, bad), ((xs, b), acc)))) (fin := fun r => ((recs, r.2.1), (r.2.2, r.1))) (one := textV recs) (t := t) (M := 4294967296) (fun bad xs b => zmP recs bad xs b)
  (fun i acc bad xs b hi ha hx => by
   show qt_B0 n (t : Int) (i : Int) recs bad xs b acc = _
   unfold qt_B0
   rw [decide_eq_true (by omega), cond_true, zog n recs bad xs b hx (by omega), Option.bind_some, zk (by omega), zn (by simp; omega), cond_true]
   cases bad <;> rfl)
  (fun acc bad xs b => by
   show qt_B0 n (t : Int) (t : Int) recs bad xs b acc = _
   unfold qt_B0
   rw [decide_eq_false (by omega), cond_false]) t 0 n [] bad1 xs1 b1 (by omega) (by omega) rfl (by omega)
 rw [show qt_W0 n (((t : Int), 0), ((recs, bad1), ((xs1, b1), []))) = _ from h, Option.bind_some]
 rfl
noncomputable def recV (recs : Int) (bad : Bool) (xs : List Int) (b : Bool) : List TyD × Bool × List Int × Bool := clistV (oneV recs) 6 bad xs b
theorem zno (recs : Int) (bad : Bool) (xs : List Int) (b : Bool) : (recV recs bad xs b).2.2.1.length ≤ xs.length := zap (zax recs) 6 bad xs b
theorem zou (n : Nat) (recs : Int) (bad : Bool) (xs : List Int) (b : Bool) (hx : xs.length ≤ 4294967296) (hn : 2000 ≤ n) : qap n recs bad xs b = some ((recV recs bad xs b).1, ((recs, (recV recs bad xs b).2.1), (recV recs bad xs b).2.2)) := by
 unfold qap recV
 rw [zbl n 6 recs bad xs b (by omega) hx hn, Option.bind_some]
theorem qj_eq (n : Nat) (most recs : Int) (bad : Bool) (xs : List Int) (b : Bool) (hm : 0 ≤ most ∧ most ≤ 1000) (hx : xs.length ≤ 4294967296) (hn : 2000 ≤ n) :
  qj n most recs bad xs b = some ((clistV (recV recs) most bad xs b).1, ((recs, (clistV (recV recs) most bad xs b).2.1), (clistV (recV recs) most bad xs b).2.2)) := by
 unfold qj
 rw [zaL n most recs bad xs b hm hx (by omega), Option.bind_some]
 unfold clistV
 have hc := zag most hm.1 bad xs b
 have hl := zZ most bad xs b
 generalize countV most bad xs b = c at hc hl ⊢
 obtain ⟨c0, bad1, xs1, b1⟩ := c
 simp only at hc hl ⊢
 obtain ⟨t, rfl⟩ : ∃ t : Nat, c0 = (t : Int) := ⟨c0.toNat, by omega⟩
 have h := zaM (B := fun s => qj_B0 n s.1.1 s.1.2 s.2.1.1 s.2.1.2 s.2.2.1.1 s.2.2.1.2 s.2.2.2) (mk := fun (i : Nat) acc bad xs b => (((t : Int), (i : Int)), ((recs, bad), ((xs, b), acc)))) (fin := fun r => ((recs, r.2.1), (r.2.2, r.1))) (one := recV recs) (t := t) (M := 4294967296) (fun bad xs b => zno recs bad xs b)
  (fun i acc bad xs b hi ha hx => by
   show qj_B0 n (t : Int) (i : Int) recs bad xs b acc = _
   unfold qj_B0
   rw [decide_eq_true (by omega), cond_true, zou n recs bad xs b hx (by omega), Option.bind_some, zk (by omega), zn (by simp; omega), cond_true]
   cases bad <;> rfl)
  (fun acc bad xs b => by
   show qj_B0 n (t : Int) (t : Int) recs bad xs b acc = _
   unfold qj_B0
   rw [decide_eq_false (by omega), cond_false]) t 0 n [] bad1 xs1 b1 (by omega) (by omega) rfl (by omega)
 rw [show qj_W0 n (((t : Int), 0), ((recs, bad1), ((xs1, b1), []))) = _ from h, Option.bind_some]
 rfl
end Sx
end
section
/- A module's bytes are bytes. Which parts there are. -/
set_option linter.unusedVariables false
set_option linter.unusedSimpArgs false
namespace Sx
open Go Go.Ab
def Bytes (l : List Int) : Prop := ∀ x ∈ l, 0 ≤ x ∧ x ≤ 255
theorem Bytes.app {a b : List Int} (h : Bytes a) (h' : Bytes b) : Bytes (a ++ b) := fun x hx => (List.mem_append.1 hx).elim (h x) (h' x)
theorem Bytes.flat {α : Type} {f : α → List Int} {l : List α} (h : ∀ a ∈ l, Bytes (f a)) : Bytes (l.flatMap f) := fun x hx => by
 obtain ⟨a, ha, hx⟩ := List.mem_flatMap.1 hx
 exact h a ha x hx
theorem Bytes.var {v : Nat} (h : v < 18446744073709551616) : Bytes (varN v) := zeo h
theorem Bytes.list {α : Type} {f : α → List Int} {l : List α} (hl : l.length < 18446744073709551616) (h : ∀ a ∈ l, Bytes (f a)) : Bytes (listV f l) := (Bytes.var hl).app (Bytes.flat h)
theorem Bytes.typ {t : TyD} (h : okT t) : Bytes (typV t) := by
 have h1 := h.1; have h2 := h.2
 unfold okI at h1 h2
 exact (Bytes.var (by unfold pos; omega)).app (Bytes.var (by unfold pos; omega))
theorem Bytes.types {l : List TyD} (hl : l.length < 18446744073709551616) (h : okTs l) : Bytes (typesV l) := (Bytes.var hl).app (Bytes.flat fun t ht => Bytes.typ (h t ht))
theorem Bytes.put (i : InD) : Bytes (putV i) := by
 intro x hx
 unfold putV at hx
 split at hx
 ·cases hx
 ·rename_i hb
  have hb := Bool.not_eq_true _ ▸ hb
  unfold badI at hb
  have hb := of_decide_eq_false hb
  have ha := zhV (op := i.1) (by omega)
  rcases List.mem_cons.1 hx with rfl | hx
  ·omega
  ·rcases List.mem_append.1 hx with hx | hx
   ·split at hx
    ·exact zeo (by omega) x hx
    ·cases hx
   ·split at hx
    ·exact zeo (by omega) x hx
    ·cases hx
theorem Bytes.fix (k v : Nat) : Bytes (fixN k v) := by
 intro x hx
 unfold fixN at hx
 obtain ⟨i, _, rfl⟩ := List.mem_map.1 hx
 omega
theorem Bytes.text (s : ByteArray) : Bytes (bytesInts s) := by
 intro x hx
 unfold bytesInts at hx
 obtain ⟨c, _, rfl⟩ := List.mem_map.1 hx
 have := c.toNat_lt
 omega
theorem zhN {m : ModD} (ho : OkM m) (hf : fitsV m = true) : Bytes (encV m) := by
 have l1 := (zdW 200 m ho hf (by omega)).2
 have l2 := (zcx 200 m ho hf (by omega)).2
 have l3 := (zdT 200 m ho hf (by omega)).2
 have l4 := (zem 200 m ho hf (by omega)).2
 have l5 := (zhs 200 m hf (by omega)).2
 have hf' := hf
 unfold fitsV at hf'
 simp only [Bool.and_eq_true, decide_eq_true_eq] at hf'
 obtain ⟨h1, h2, h3, h4, h5, h6, h7, h8, h9, h10⟩ := hf'
 have b1 : Bytes (listV typesV m.recs) := Bytes.list (by omega) fun l hl => Bytes.types (by have := zaG (List.all_eq_true.1 h2 l hl); omega) (ho.recs l hl)
 have b2 : Bytes (listV fncV m.funcs) := Bytes.list (by omega) fun f hf => by
  have hl := zdd (List.all_eq_true.1 h5 f hf)
  have ho := ho.funcs f hf
  unfold fncV
  exact ((((Bytes.types (by omega) ho.1).app (Bytes.typ ho.2.1)).app (Bytes.types (by omega) ho.2.2)).app (Bytes.var (by omega))).app (Bytes.flat fun i _ => Bytes.put i)
 have b3 : Bytes (listV impV m.imps) := Bytes.list (by omega) fun f hf => by
  have hl := zhf (List.all_eq_true.1 h7 f hf)
  have ho := ho.imps f hf
  unfold impV
  exact (Bytes.types (by omega) ho.1).app (Bytes.typ ho.2)
 have b4 : Bytes (listV (fun v : Int => fixN 8 v.toNat) m.ints) := Bytes.list (by omega) fun v _ => Bytes.fix 8 _
 have b5 : Bytes (listV txtV m.texts) := Bytes.list (by omega) fun t ht => (Bytes.var (by have := of_decide_eq_true (List.all_eq_true.1 h10 t ht); omega)).app (Bytes.text t)
 unfold encV joinV
 refine Bytes.list (by simp) fun p hp => ?_
 have hp : p = listV typesV m.recs ∨ p = listV fncV m.funcs ∨ p = listV impV m.imps ∨ p = listV (fun v : Int => fixN 8 v.toNat) m.ints ∨ p = listV txtV m.texts := by simpa using hp
 rcases hp with rfl | rfl | rfl | rfl | rfl
 ·exact (Bytes.var (by omega)).app b1
 ·exact (Bytes.var (by omega)).app b2
 ·exact (Bytes.var (by omega)).app b3
 ·exact (Bytes.var (by omega)).app b4
 ·exact (Bytes.var (by omega)).app b5
theorem qcd_eq (n : Nat) (most : Int) (xs : List Int) (b : Bool) (hm : 0 ≤ most ∧ most ≤ 4294967296) (hx : xs.length ≤ 4294967296) (hn : 20 ≤ n) :
  qcd n most xs b = some ((min (varV xs b).1 most, !(varV xs b).2.2 && decide ((varV xs b).1 ≤ most)), (varV xs b).2) := by
 unfold qcd
 have hr := zQ xs b
 rw [zer n xs b hx hn]
 simp only [qbf, Option.bind_some]
 have hmax : maxI most 0 = most := by
  unfold maxI
  first | (rw [decide_eq_false (by omega)]; rfl) | (rw [decide_eq_true (by omega)]; rfl)
 rw [hmax, zA hm.1 (by omega)]
 have hmin : minI (varV xs b).1 most = min (varV xs b).1 most := by
  unfold minI
  by_cases h : most < (varV xs b).1
  ·rw [decide_eq_true h]; simp only [cond_true]; omega
  ·rw [decide_eq_false h]; simp only [cond_false]; omega
 rw [hmin, zaP (by omega) (by omega)]
 generalize varV xs b = r at *
 obtain ⟨v, xs1, b1⟩ := r
 cases b1 with
 | true => rfl
 | false => simp only [Bool.not_false, cond_true, decide_eq_true (show most ≥ 0 from hm.1), Bool.true_and]
theorem zmp (n : Nat) (t0 : List Int) (hx : t0.length ≤ 1000000) (hn : 6000 ≤ n) : ∃ parts e, qcf n t0 5 = some (parts, e) ∧ (∀ p ∈ parts, p.length ≤ 1000000) := by
 unfold qcf qbg
 rw [zn (by omega), cond_true, Option.bind_some, qcd_eq n 5 t0 false (by omega) (by omega) (by omega), Option.bind_some]
 have hl := zaA t0 false
 have hr := zQ t0 false
 generalize varV t0 false = r at hl hr ⊢
 obtain ⟨v, xs1, b1⟩ := r
 simp only at hl hr ⊢
 cases hok : (!b1 && decide (v ≤ 5)) with
 | false => exact ⟨_, _, rfl, by simp⟩
 | true =>
  simp only [Bool.not_true, cond_false]
  obtain ⟨t, ht⟩ : ∃ t : Nat, min v 5 = (t : Int) := ⟨(min v 5).toNat, by omega⟩
  rw [ht]
  obtain ⟨y, hy, hQ⟩ := zaB (B := fun s => qcf_B0 n s.1.1 s.1.2 s.2.1.1 s.2.1.2 s.2.2) (xs := List.range t) (mk := fun (i : Nat) (a : (List Int × Bool) × List (List Int)) => (((t : Int), (i : Int)), a))
   (I := fun i a => a.1.1.length ≤ 1000000 ∧ a.2.length = i ∧ ∀ p ∈ a.2, p.length ≤ 1000000)
   (Q := fun y => match y with | .inl u => ∀ p ∈ u.1.1, p.length ≤ 1000000 | .inr (.inl u) => ∀ p ∈ u.1.1, p.length ≤ 1000000 | .inr (.inr v) => ∀ p ∈ v.2, p.length ≤ 1000000)
   (fun i a x hx hI => by
    obtain ⟨⟨xs, b⟩, ps⟩ := a
    obtain ⟨h1, h2, h3⟩ := hI
    simp only at h1 h2 h3
    have hi : i < t := by have := zj hx; simpa using this
    show (∃ a', qcf_B0 n (t : Int) (i : Int) xs b ps = _ ∧ _) ∨ ∃ y, qcf_B0 n (t : Int) (i : Int) xs b ps = _ ∧ _
    unfold qcf_B0
    rw [decide_eq_true (by omega), cond_true]
    obtain ⟨most, hle, hm⟩ : ∃ most : Int, qat n xs b = some (most, (xs, b)) ∧ 0 ≤ most ∧ most ≤ 4294967296 := by
     unfold qat
     simp only [qbf, Option.bind_some]
     cases b with
     | true => exact ⟨0, rfl, by omega⟩
     | false => exact ⟨lenI xs, rfl, by rw [zd]; omega⟩
    rw [hle, Option.bind_some, qcd_eq n most xs b hm (by omega) (by omega), Option.bind_some]
    have hl2 := zaA xs b
    generalize varV xs b = r at hl2 ⊢
    obtain ⟨v, xs2, b2⟩ := r
    simp only at hl2 ⊢
    cases hok2 : (!b2 && decide (v ≤ most)) with
    | false => right; exact ⟨_, rfl, by simp⟩
    | true =>
     simp only [Bool.not_true, cond_false]
     rw [zdz n _ xs2 b2 (by omega), Option.bind_some, zn (by simp; omega), cond_true]
     have hl3 := zfg (min v most) xs2 b2
     generalize takeV (min v most) xs2 b2 = q at hl3 ⊢
     obtain ⟨p, xs3, b3⟩ := q
     simp only [qbf, Option.bind_some] at hl3 ⊢
     have hps : ∀ p' ∈ ps ++ [p], p'.length ≤ 1000000 := by
      intro p' hp'
      rcases List.mem_append.1 hp' with h | h
      ·exact h3 p' h
      ·rw [List.mem_singleton.1 h]; omega
     cases b3 with
     | true => right; exact ⟨_, rfl, by simp⟩
     | false =>
      left
      refine ⟨((xs3, false), ps ++ [p]), ?_, by simp only; omega, by simp [h2], hps⟩
      rw [zk (by omega)]; rfl)
   (fun a hI => by
    obtain ⟨⟨xs, b⟩, ps⟩ := a
    refine ⟨.inr (.inr ((xs, b), ps)), ?_, hI.2.2⟩
    show qcf_B0 n (t : Int) ((List.range t).length : Int) xs b ps = _
    unfold qcf_B0
    rw [List.length_range, decide_eq_false (by omega), cond_false])
   t 0 n ((xs1, b1), []) (by simp) ⟨by simp only; omega, rfl, by simp⟩ (by omega)
  rw [show qcf_W0 n (((t : Int), 0), ((xs1, b1), [])) = some y from hy, Option.bind_some]
  rcases y with u | u | v
  ·exact ⟨_, _, rfl, hQ⟩
  ·exact ⟨_, _, rfl, hQ⟩
  ·show ∃ parts e, ((qat n v.1.1 v.1.2).bind fun r => bif decide (r.1 > 0) then some (([] : List (List Int)), (2 : Int)) else some (v.2, 0)) = some (parts, e) ∧ _
   unfold qat
   simp only [qbf, Option.bind_some]
   cases v.1.2 with
   | true => exact ⟨_, _, rfl, hQ⟩
   | false =>
    simp only [cond_false, Option.bind_some]
    cases decide (lenI v.1.1 > 0) with
    | true => exact ⟨_, _, rfl, by simp⟩
    | false => exact ⟨_, _, rfl, hQ⟩
end Sx
end
section
/- Decode, of whatever bytes: nothing, or the module whose bytes they are. -/
set_option linter.unusedVariables false
set_option linter.unusedSimpArgs false
namespace Sx
open Go Go.Ab
def emptyM : ModD := ⟨[], [], [], [], []⟩
theorem zob (recs : Int) (xs : List Int) (b : Bool) : okT (getV recs xs b).1 := by
 unfold getV
 simp only
 have h1 := zQ xs b
 have h2 := zQ (varV xs b).2.1 (varV xs b).2.2
 split
 ·exact ⟨by unfold okI; simp, by unfold okI; simp⟩
 ·rename_i h
  have e1 : (varV xs b).1 ≤ 8 := Int.not_lt.mp fun h' => h (.inr (.inl h'))
  have e2 : (varV (varV xs b).2.1 (varV xs b).2.2).1 ≤ 255 := Int.not_lt.mp fun h' => h (.inr (.inr (.inl h')))
  exact ⟨by unfold okI; simp only; omega, by unfold okI; simp only; omega⟩
theorem zbx {A : Type} {one : Bool → List Int → Bool → A × Bool × List Int × Bool} {p : A → Prop} (h1 : ∀ bad xs b, p (one bad xs b).1) (most : Int) (bad : Bool) (xs : List Int) (b : Bool) : ∀ x ∈ (clistV one most bad xs b).1, p x :=
 zgS h1 _ _ _ _ _ (fun x hx => by cases hx)
theorem zjo (recs : Int) (bad : Bool) (xs : List Int) (b : Bool) : okT (oneV recs bad xs b).1 := zob recs xs b
theorem zeF (recs most : Int) (bad : Bool) (xs : List Int) (b : Bool) : okTs (clistV (oneV recs) most bad xs b).1 := zbx (p := okT) (zjo recs) most bad xs b
theorem zoj (recs : Int) (bad : Bool) (xs : List Int) (b : Bool) : okTs (recV recs bad xs b).1 := zeF recs 6 bad xs b
theorem zmW (recs : Int) (bad : Bool) (xs : List Int) (b : Bool) : okTs (funcV recs bad xs b).1.1 ∧ okT ((funcV recs bad xs b).1.2.1, (funcV recs bad xs b).1.2.2.1) ∧ okTs (funcV recs bad xs b).1.2.2.2.1 := by
 unfold funcV
 simp only
 exact ⟨zeF _ _ _ _ _, (show okT (oneV recs (clistV (oneV recs) 4 bad xs b).2.1 (clistV (oneV recs) 4 bad xs b).2.2.1 (clistV (oneV recs) 4 bad xs b).2.2.2).1 from zjo recs _ _ _), zeF _ _ _ _ _⟩
theorem znC (recs : Int) (bad : Bool) (xs : List Int) (b : Bool) : okTs (hostV recs bad xs b).1.1 ∧ okT ((hostV recs bad xs b).1.2.1, (hostV recs bad xs b).1.2.2) := by
 unfold hostV
 simp only
 exact ⟨zeF _ _ _ _ _, (show okT (oneV recs (clistV (oneV recs) 4 bad xs b).2.1 (clistV (oneV recs) 4 bad xs b).2.2.1 (clistV (oneV recs) 4 bad xs b).2.2.2).1 from zjo recs _ _ _)⟩
noncomputable def readV (p0 p1 p2 p3 p4 : List Int) : ModD :=
 let r := (clistV (recV (min (varV p0 false).1 8)) 8 false p0 false).1
 ⟨r, (clistV (funcV r.length) 8 false p1 false).1, (clistV (hostV r.length) 8 false p2 false).1, (clistV (u64V r.length) 16 false p3 false).1, (clistV (textV r.length) 16 false p4 false).1⟩
theorem zjN (p0 p1 p2 p3 p4 : List Int) : OkM (readV p0 p1 p2 p3 p4) := by
 unfold readV
 simp only
 exact ⟨zbx (p := okTs) (zoj _) _ _ _ _, zbx (p := fun f : FnD => okTs f.1 ∧ okT (f.2.1, f.2.2.1) ∧ okTs f.2.2.2.1) (zmW _) _ _ _ _, zbx (p := fun f : ImD => okTs f.1 ∧ okT (f.2.1, f.2.2)) (znC _) _ _ _ _,
  zbx (p := fun v : Int => 0 ≤ v ∧ v ≤ 18446744073709551615) (fun bad xs b => zlB _) _ _ _ _⟩
theorem newR (n : Nat) (p : List Int) (h : p.length ≤ 1000000) : qbg n p = some (p, false) := by
 unfold qbg
 rw [zn (by omega), cond_true]
theorem zjA (n : Nat) (t0 p0 p1 p2 p3 p4 : List Int) (hs : qcf n t0 5 = some ([p0, p1, p2, p3, p4], 0)) (h0 : p0.length ≤ 1000000) (h1 : p1.length ≤ 1000000) (h2 : p2.length ≤ 1000000) (h3 : p3.length ≤ 1000000) (h4 : p4.length ≤ 1000000) (hn : 6000 ≤ n) :
  qba n t0 = some (if fitsV (readV p0 p1 p2 p3 p4) = true ∧ eqS (intsBytes (encV (readV p0 p1 p2 p3 p4))) (intsBytes t0) = true then (mtup (readV p0 p1 p2 p3 p4), 0) else (mtup emptyM, 2)) := by
 have ho := zjN p0 p1 p2 p3 p4
 have hr := zQ p0 false
 unfold qba
 rw [hs, Option.bind_some]
 simp only [qan, qac, qag, qy, qaf]
 rw [show ((0 : Int) != 0) = false from rfl, cond_false, show (lenI [p0, p1, p2, p3, p4] != 5) = false from rfl, cond_false]
 rw [show getI [p0, p1, p2, p3, p4] 0 = some p0 from rfl, Option.bind_some, newR n p0 h0, Option.bind_some, Option.bind_some]
 simp only
 rw [show getI [p0, p1, p2, p3, p4] 0 = some p0 from rfl, Option.bind_some, newR n p0 h0, Option.bind_some, zer n p0 false (by omega) (by omega), Option.bind_some]
 have hmin : cvtI .i64 (minI (varV p0 false).1 8) = min (varV p0 false).1 8 := by
  have : minI (varV p0 false).1 8 = min (varV p0 false).1 8 := by
   unfold minI
   by_cases h : 8 < (varV p0 false).1
   ·rw [decide_eq_true h]; simp only [cond_true]; omega
   ·rw [decide_eq_false h]; simp only [cond_false]; omega
  rw [this, zaP (by omega) (by omega)]
 rw [hmin, qj_eq n 8 _ false p0 false (by omega) (by omega) (by omega), Option.bind_some]
 simp only
 rw [show getI [p0, p1, p2, p3, p4] 1 = some p1 from rfl, Option.bind_some, newR n p1 h1, Option.bind_some, Option.bind_some]
 simp only
 rw [zd, qp_eq n 8 _ false p1 false (by omega) (by omega) (by omega), Option.bind_some]
 simp only
 rw [show getI [p0, p1, p2, p3, p4] 2 = some p2 from rfl, Option.bind_some, newR n p2 h2, Option.bind_some, Option.bind_some]
 simp only
 rw [zd, qd_eq n 8 _ false p2 false (by omega) (by omega) (by omega), Option.bind_some]
 simp only
 rw [show getI [p0, p1, p2, p3, p4] 3 = some p3 from rfl, Option.bind_some, newR n p3 h3, Option.bind_some, Option.bind_some]
 simp only
 rw [zd, qr_eq n 16 _ false p3 false (by omega) (by omega) (by omega), Option.bind_some]
 simp only
 rw [show getI [p0, p1, p2, p3, p4] 4 = some p4 from rfl, Option.bind_some, newR n p4 h4, Option.bind_some, Option.bind_some]
 simp only
 rw [qt_eq n 16 _ false p4 false (by omega) (by omega) (by omega), Option.bind_some]
 have he := zmx n (readV p0 p1 p2 p3 p4) ho (by omega)
 show (qbe n (readV p0 p1 p2 p3 p4).recs (readV p0 p1 p2 p3 p4).funcs (readV p0 p1 p2 p3 p4).imps (readV p0 p1 p2 p3 p4).ints (readV p0 p1 p2 p3 p4).texts).bind (fun r437 => bif r437.2 != 0 then some (mtup emptyM, (2 : Int)) else bif !(eqS (intsBytes r437.1) (intsBytes t0)) then some (mtup emptyM, 2) else some (mtup (readV p0 p1 p2 p3 p4), 0)) = _
 rw [he, Option.bind_some]
 generalize readV p0 p1 p2 p3 p4 = m
 cases hf : fitsV m with
 | false => rw [if_neg (by simp), if_neg (by simp)]; rfl
 | true =>
  rw [if_pos rfl]
  show (bif !(eqS (intsBytes (encV m)) (intsBytes t0)) then some (mtup emptyM, (2 : Int)) else some (mtup m, 0)) = _
  cases eqS (intsBytes (encV m)) (intsBytes t0) <;> rfl
theorem zla (n : Nat) (t0 : List Int) (hx : t0.length ≤ 1000000) (hb : Bytes t0) (hn : 6000 ≤ n) :
  qba n t0 = some (mtup emptyM, 2) ∨ ∃ m, qba n t0 = some (mtup m, 0) ∧ OkM m ∧ fitsV m = true ∧ encV m = t0 := by
 obtain ⟨parts, e, hs, hp⟩ := zmp n t0 hx hn
 by_cases he : e = 0
 ·subst he
  by_cases h5 : parts.length = 5
  ·match parts, h5, hp, hs with
   | [p0, p1, p2, p3, p4], _, hp, hs =>
    rw [zjA n t0 p0 p1 p2 p3 p4 hs (hp p0 (by simp)) (hp p1 (by simp)) (hp p2 (by simp)) (hp p3 (by simp)) (hp p4 (by simp)) hn]
    have ho := zjN p0 p1 p2 p3 p4
    generalize readV p0 p1 p2 p3 p4 = m at ho ⊢
    by_cases hc : fitsV m = true ∧ eqS (intsBytes (encV m)) (intsBytes t0) = true
    ·rw [if_pos hc]
     refine .inr ⟨m, rfl, ho, hc.1, ?_⟩
     have := hc.2
     rw [zmZ (zhN ho hc.1) hb] at this
     exact of_decide_eq_true this
    ·rw [if_neg hc]; exact .inl rfl
  ·left
   unfold qba
   rw [hs, Option.bind_some]
   show (bif ((0 : Int) != 0) then _ else bif (lenI parts != 5) then some (mtup emptyM, (2 : Int)) else _) = _
   rw [show ((0 : Int) != 0) = false from rfl, cond_false, show (lenI parts != 5) = true from by rw [zd]; exact bne_iff_ne.2 (by omega), cond_true]
 ·left
  unfold qba
  rw [hs, Option.bind_some]
  show (bif (e != 0) then some (mtup emptyM, (2 : Int)) else _) = _
  rw [show (e != 0) = true from bne_iff_ne.2 he, cond_true]
end Sx
end
section
/- What any bytes are. -/
set_option linter.unusedVariables false
set_option linter.unusedSimpArgs false
namespace Sx
open Go Go.Ab
theorem zkK : LightM emptyM := by
 constructor <;> simp [emptyM]
theorem zhh (n : Nat) (hn : 6000 ≤ n) : qu n [] [] [] [] [] [] [] [] [] [] = some true := by
 have := zlb n emptyM emptyM zkK hn
 rw [zll] at this
 exact this
end Sx
end
section
/- A module's bytes are no beginning of another one's. -/
set_option linter.unusedVariables false
set_option linter.unusedSimpArgs false
namespace Sx
open Go Go.Ab
theorem zfu : ∀ (k a b : Nat) (x y : List Int), varF k a ++ x = varF k b ++ y → a = b ∧ x = y
 | 0, a, b, x, y, h => by
  simp only [varF, List.cons_append, List.nil_append, List.cons.injEq] at h
  exact ⟨by omega, h.2⟩
 | k + 1, a, b, x, y, h => by
  unfold varF at h
  by_cases ha : a < 128
  ·by_cases hb : b < 128
   ·rw [if_pos ha, if_pos hb] at h
    simp only [List.cons_append, List.nil_append, List.cons.injEq] at h
    exact ⟨by omega, h.2⟩
   ·rw [if_pos ha, if_neg hb] at h
    simp only [List.cons_append, List.nil_append, List.cons.injEq] at h
    exfalso; omega
  ·by_cases hb : b < 128
   ·rw [if_neg ha, if_pos hb] at h
    simp only [List.cons_append, List.nil_append, List.cons.injEq] at h
    exfalso; omega
   ·rw [if_neg ha, if_neg hb] at h
    simp only [List.cons_append, List.cons.injEq] at h
    obtain ⟨h1, h2⟩ := zfu k (a / 128) (b / 128) x y h.2
    exact ⟨by omega, h2⟩
theorem zgJ : ∀ (l l' : List (List Int)) (x y : List Int), l.length = l'.length → l.flatMap (fun p => varN p.length ++ p) ++ x = l'.flatMap (fun p => varN p.length ++ p) ++ y → x = y
 | [], [], x, y, _, h => h
 | p :: l, q :: l', x, y, hl, h => by
  simp only [List.flatMap_cons, List.append_assoc] at h
  obtain ⟨h1, h2⟩ := zfu 10 p.length q.length _ _ h
  obtain ⟨_, h3⟩ := List.append_inj h2 h1
  exact zgJ l l' x y (by simpa using hl) h3
 | [], _ :: _, x, y, hl, h => by cases hl
 | _ :: _, [], x, y, hl, h => by cases hl
theorem ziU (m m' : ModD) (x y : List Int) (h : encV m ++ x = encV m' ++ y) : x = y := by
 unfold encV joinV at h
 generalize hl : [listV typesV m.recs, listV fncV m.funcs, listV impV m.imps, listV (fun v : Int => fixN 8 v.toNat) m.ints, listV txtV m.texts] = l at h
 generalize hl' : [listV typesV m'.recs, listV fncV m'.funcs, listV impV m'.imps, listV (fun v : Int => fixN 8 v.toNat) m'.ints, listV txtV m'.texts] = l' at h
 unfold listV at h
 rw [List.append_assoc, List.append_assoc] at h
 obtain ⟨_, h2⟩ := zfu 10 _ _ _ _ h
 exact zgJ l l' x y (by rw [← hl, ← hl']; rfl) h2
theorem znD (m : ModD) (ho : OkM m) (hf : fitsV m = true) : 1 ≤ (encV m).length ∧ (encV m).length ≤ 100000 := by
 have l1 := (zdW 200 m ho hf (by omega)).2
 have l2 := (zcx 200 m ho hf (by omega)).2
 have l3 := (zdT 200 m ho hf (by omega)).2
 have l4 := (zem 200 m ho hf (by omega)).2
 have l5 := (zhs 200 m hf (by omega)).2
 unfold encV joinV
 generalize listV typesV m.recs = a at *
 generalize listV fncV m.funcs = b at *
 generalize listV impV m.imps = c at *
 generalize listV (fun v : Int => fixN 8 v.toNat) m.ints = d at *
 generalize listV txtV m.texts = e at *
 unfold listV
 have v0 := zg (0 + 1 + 1 + 1 + 1 + 1)
 have v1 := zg a.length
 have v2 := zg b.length
 have v3 := zg c.length
 have v4 := zg d.length
 have v5 := zg e.length
 simp only [List.length_cons, List.length_nil, List.flatMap_cons, List.flatMap_nil, List.length_append]
 omega
theorem zhA (n : Nat) (t : List Int) (hx : t.length ≤ 1000000) (hb : Bytes t) (hn : 6000 ≤ n) (h : ∀ m', encV m' ≠ t) : qba n t = some (mtup emptyM, 2) := by
 rcases zla n t hx hb hn with h1 | ⟨m', _, _, _, he⟩
 ·exact h1
 ·exact absurd he (h m')
theorem zkP (m : ModD) (ho : OkM m) (hl : LenM m) (a more : Int) (ha : 0 ≤ a ∧ a ≤ 65535) (hm : 0 ≤ more ∧ more ≤ 255) : law06ModuleCuts 10000 m.recs m.funcs m.imps m.ints m.texts a more = some true := by
 unfold law06ModuleCuts
 obtain ⟨x, e, hL⟩ := zkr 10000 m hl (by omega)
 rw [e, Option.bind_some, answers6]
 cases x with
 | false => rfl
 | true =>
  obtain ⟨b, hb, hb2⟩ := zjC 10000 m ho (hL rfl) (by omega)
  rw [hb, Option.bind_some]
  simp only [Bool.not_true, cond_false]
  cases hf : fitsV m with
  | false => rfl
  | true =>
   obtain rfl := hb2 hf
   have hlen := znD m ho hf
   have hbytes := zhN ho hf
   simp only [Option.bind_some, Bool.not_true, cond_false]
   rw [zd, zaP (by omega) (by omega)]
   have hr : remI a ((encV m).length : Int) = ((a.toNat % (encV m).length : Nat) : Int) := by
    rw [zcW (by omega)]
    have : (a : Int) = (a.toNat : Int) := by omega
    rw [this]; simp
   have hlt : a.toNat % (encV m).length < (encV m).length := Nat.mod_lt _ (by omega)
   rw [hr]
   generalize a.toNat % (encV m).length = r at hlt ⊢
   have h1 : qba 10000 ((encV m).take r) = some (mtup emptyM, 2) := zhA 10000 _ (by rw [List.length_take]; omega) (fun x hx => hbytes x (List.mem_of_mem_take hx)) (by omega) fun m' he => by
    have := ziU m' m ((encV m).drop r) [] (by rw [he, List.take_append_drop, List.append_nil])
    have := congrArg List.length this
    simp at this; omega
   have h2 : qba 10000 (encV m ++ [more]) = some (mtup emptyM, 2) := zhA 10000 _ (by simp; omega) (hbytes.app fun x hx => by rw [List.mem_singleton.1 hx]; exact hm) (by omega) fun m' he => by
    have := ziU m' m [] [more] (by rw [he, List.append_nil])
    cases this
   rw [show (((encV m).length : Int) == 0) = false from beq_eq_false_iff_ne.2 (by omega), decide_eq_true (by omega : (0 : Int) ≤ ((r : Nat) : Int)), decide_eq_true (by omega : ((r : Nat) : Int) ≤ (((encV m).length : Nat) : Int)), zn (by omega), zn (by simp; omega)]
   simp only [Bool.not_false, Bool.and_self, cond_true]
   rw [show Int.toNat ((r : Nat) : Int) = r from rfl, h1, h2]
   simp only [Option.bind_some, cond_true]
   rw [show ((2 : Int) == 2) = true from rfl, cond_true, cond_true]
   show (qu 10000 [] [] [] [] [] [] [] [] [] []).bind _ = _
   rw [zhh 10000 (by omega), Option.bind_some, cond_true]
   show (qu 10000 [] [] [] [] [] [] [] [] [] []).bind _ = _
   rw [zhh 10000 (by omega)]; rfl
end Sx
end
section
/- The plain laws at the rows' own data. -/
set_option linter.unusedVariables false
namespace Sx
open Go Go.Ab
abbrev tyT : Ty := .cons (.int .i64) (.int .i64)
abbrev tysT : Ty := .sl true tyT
abbrev fnT : Ty := .cons tysT (.cons (.int .i64) (.cons (.int .i64) (.cons tysT (.sl true (.cons (.int .i64) (.cons (.int .i64) (.int .i64)))))))
abbrev imT : Ty := .cons tysT (.cons (.int .i64) (.int .i64))
def shM : Sh := .agg (.cons (.sl true false tysT) (.cons (.sl true true fnT) (.cons (.sl true true imT) (.cons (.sl true false (.int .u64)) (.cons (.sl true false .str) .nil)))))
abbrev MTup := List (List TyD) × List FnD × List ImD × List Int × List ByteArray
def modOf (d : MTup) : ModD := ⟨d.1, d.2.1, d.2.2.1, d.2.2.2.1, d.2.2.2.2⟩
theorem zoh {t : TyD} (h : Fit tyT t) : okT t := ⟨zfj h.1, zfj h.2⟩
theorem zbg {l : List TyD} (h : Fit tysT l) : okTs l ∧ l.length ≤ 140737488351232 := ⟨fun t ht => zoh (h.2 t ht), h.1⟩
theorem znZ {d : MTup} (h : FitS shM d) : OkM (modOf d) ∧ LenM (modOf d) := by
 obtain ⟨h1, h2, h3, h4, h5, _⟩ : Fit (.sl false tysT) d.1 ∧ Fit (.sl true fnT) d.2.1 ∧ Fit (.sl true imT) d.2.2.1 ∧ Fit (.sl false (.int .u64)) d.2.2.2.1 ∧ Fit (.sl false .str) d.2.2.2.2 ∧ True := h
 obtain ⟨l1, e1⟩ := h1
 obtain ⟨l2, e2⟩ := h2
 obtain ⟨l3, e3⟩ := h3
 obtain ⟨l4, e4⟩ := h4
 obtain ⟨l5, e5⟩ := h5
 have f2 : ∀ f ∈ d.2.1, Fit tysT f.1 ∧ Fit (.int .i64) f.2.1 ∧ Fit (.int .i64) f.2.2.1 ∧ Fit tysT f.2.2.2.1 ∧ f.2.2.2.2.length ≤ reachBytes := fun f hf => by
  obtain ⟨a1, a2, a3, a4, a5⟩ := e2 f hf
  exact ⟨a1, a2, a3, a4, a5.1⟩
 have f3 : ∀ f ∈ d.2.2.1, Fit tysT f.1 ∧ Fit (.int .i64) f.2.1 ∧ Fit (.int .i64) f.2.2 := e3
 refine ⟨⟨fun l hl => (zbg (e1 l hl)).1, fun f hf => ?_, fun f hf => ?_, fun v hv => zot (e4 v hv)⟩, ⟨l1, l2, l3, l4, l5, fun l hl => (zbg (e1 l hl)).2, fun f hf => ?_, fun f hf => ?_, e5⟩⟩
 ·obtain ⟨a1, a2, a3, a4, a5⟩ := f2 f hf
  exact ⟨(zbg a1).1, ⟨zfj a2, zfj a3⟩, (zbg a4).1⟩
 ·obtain ⟨a1, a2, a3⟩ := f3 f hf
  exact ⟨(zbg a1).1, ⟨zfj a2, zfj a3⟩⟩
 ·obtain ⟨a1, a2, a3, a4, a5⟩ := f2 f hf
  exact ⟨(zbg a1).2, (zbg a4).2, a5⟩
 ·exact (zbg (f3 f hf).1).2
theorem zlM (d : MTup × Int × Int) (hf : FitS (.cons shM (.cons (.int .u16) (.cons (.int .u8) .nil))) d) : ∃ n, law06ModuleCuts n d.1.1 d.1.2.1 d.1.2.2.1 d.1.2.2.2.1 d.1.2.2.2.2 d.2.1 d.2.2 = some true := by
 obtain ⟨h1, h2, h3, _⟩ : FitS shM d.1 ∧ Fit (.int .u16) d.2.1 ∧ Fit (.int .u8) d.2.2 ∧ True := hf
 obtain ⟨ho, hl⟩ := znZ (d := d.1) h1
 exact ⟨10000, zkP (modOf d.1) ho hl d.2.1 d.2.2 (zov h2) (zoy h3)⟩
end Sx
end
