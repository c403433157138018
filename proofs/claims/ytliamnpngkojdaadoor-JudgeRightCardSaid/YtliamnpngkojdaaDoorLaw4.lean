/- Plain laws (texts FlmA, FlmB, FlmC, FlmE, FlmF, FlmG, FlmH, FlmI, FwB, FwC, FwD, FwS, FwRowS). -/
import Derived.Test.YtliamnpngkojdaaDoorFlSh
import Derived.Test.YtliamnpngkojdaaDoorLib8
import Derived.KernelRfl
import Derived.Test.YtliamnpngkojdaaDoorLaw1
section
/- Numbers, types and instructions as bytes: what the printed functions come to. -/
set_option linter.unusedVariables false
set_option linter.unusedSimpArgs false
namespace Sx
open Go Go.Ab
def varF : Nat → Nat → List Int
 | 0, v => [(v : Int)]
 | k + 1, v => if v < 128 then [(v : Int)] else ((128 + v % 128 : Nat) : Int) :: varF k (v / 128)
def varN (v : Nat) : List Int := varF 10 v
theorem ziB : ∀ (k v : Nat), 1 ≤ (varF k v).length ∧ (varF k v).length ≤ k + 1
 | 0, v => ⟨Nat.le_refl _, Nat.le_refl _⟩
 | k + 1, v => by
  unfold varF
  split
  ·exact ⟨by simp, by simp⟩
  ·have := ziB k (v / 128)
   rw [List.length_cons]; omega
theorem zn (v : Nat) : 1 ≤ (varN v).length ∧ (varN v).length ≤ 11 := ziB 10 v
theorem or128 (v : Nat) : orI .u8 (cvtI .u8 (v : Int)) 128 = ((128 + v % 128 : Nat) : Int) := by
 rw [zgx]
 have h : ∀ m : Nat, m < 256 → orI .u8 (m : Int) 128 = ((128 + m % 128 : Nat) : Int) := by decide +kernel
 have := h (v % 256) (by omega)
 rw [show ((v : Int) % 256) = ((v % 256 : Nat) : Int) by omega, this]
 omega
theorem shr7 (v : Nat) : shrI .u64 (v : Int) 7 = ((v / 128 : Nat) : Int) := by
 show (v : Int).fdiv (2 ^ (min (7 : Int).toNat 64)) = _
 rw [show ((2 : Int) ^ (min (7 : Int).toNat 64)) = 128 from rfl, Int.fdiv_eq_ediv_of_nonneg _ (by omega)]
 omega
theorem qcs_loop (n : Nat) : ∀ (k v m : Nat) (acc : List Int), v < 128 ^ (k + 1) → acc.length + k ≤ 4294967000 → k < m → ∃ r, loopS (fun s => qcs_B0 n s.1 s.2) m ((v : Int), acc) = some r ∧ 0 ≤ r.1 ∧ r.1 ≤ 127 ∧ r.2 ++ [r.1] = acc ++ varF k v ∧ r.2.length ≤ acc.length + k
 | 0, v, m + 1, acc, hv, ha, hm => by
  refine ⟨((v : Int), acc), zR ?_, by omega, by simp only []; omega, rfl, by simp⟩
  show qcs_B0 n (v : Int) acc = _
  unfold qcs_B0
  rw [decide_eq_false (by omega), cond_false]
 | k + 1, v, m + 1, acc, hv, ha, hm => by
  by_cases h : v < 128
  ·refine ⟨((v : Int), acc), zR ?_, by omega, by simp only []; omega, by simp [varF, h], by simp⟩
   show qcs_B0 n (v : Int) acc = _
   unfold qcs_B0
   rw [decide_eq_false (by omega), cond_false]
  ·have hb : qcs_B0 n (v : Int) acc = some (Sum.inl (((v / 128 : Nat) : Int), acc ++ [((128 + v % 128 : Nat) : Int)])) := by
    unfold qcs_B0
    rw [decide_eq_true (by omega), cond_true, or128, shr7, zo (by simp; omega), cond_true]
   rw [zE (s := ((v : Int), acc)) hb]
   obtain ⟨r, h1, h2, h3, h4, h5⟩ := qcs_loop n k (v / 128) m (acc ++ [((128 + v % 128 : Nat) : Int)]) (by rw [Nat.pow_succ] at hv; omega) (by simp; omega) (by omega)
   refine ⟨r, h1, h2, h3, ?_, by simp at h5; omega⟩
   rw [h4, varF, if_neg h]
   simp
 | _, _, 0, _, _, _, hm => by omega
theorem qcs_eq (n v : Nat) (hv : v < 18446744073709551616) (hn : 20 ≤ n) : qcs n (v : Int) = some (varN v) := by
 unfold qcs
 obtain ⟨r, h1, h2, h3, h4, h5⟩ := qcs_loop n 10 v n [] (by omega) (by simp) (by omega)
 rw [show qcs_W0 n ((v : Int), []) = some r from h1, Option.bind_some, zcC h2 (by omega), h4, zo (by have := zn v; simp [varN] at this; simp; omega), cond_true]
 rfl
theorem quo128 {v : Nat} (hv : v < 18446744073709551616) : quoI .u64 (v : Int) 128 = ((v / 128 : Nat) : Int) := by
 show IntKind.u64.wrap ((v : Int).tdiv 128) = _
 rw [Int.tdiv_eq_ediv_of_nonneg (by omega), wrapU64]
 omega
theorem zkQ (n : Nat) : ∀ (k v d : Nat), v < 128 ^ (k + 1) → v < 18446744073709551616 → k < d → k ≤ 11 → qcb_D n d (v : Int) = some (varF k v)
 | 0, v, d + 1, hv, h64, hd, hk => by
  show qcb_S n (qcb_D n d) (v : Int) = _
  unfold qcb_S
  rw [decide_eq_true (by omega), cond_true, zcC (by omega) (by omega)]; rfl
 | k + 1, v, d + 1, hv, h64, hd, hk => by
  show qcb_S n (qcb_D n d) (v : Int) = _
  unfold qcb_S
  by_cases h : v < 128
  ·rw [decide_eq_true (by omega), cond_true, zcC (by omega) (by omega), varF, if_pos h]
  ·have hl := ziB k (v / 128)
   rw [decide_eq_false (by omega), cond_false, quo128 h64, zkQ n k (v / 128) d (by rw [Nat.pow_succ] at hv; omega) (by omega) (by omega) (by omega), Option.bind_some, zde (by omega)]
   have h1 : addI .u64 128 ((v : Int) % 128) = ((128 + v % 128 : Nat) : Int) := by
    show IntKind.u64.wrap _ = _
    rw [wrapU64]; omega
   rw [h1, zcC (by omega) (by omega), zo (by simp; omega), cond_true, varF, if_neg h]
   rfl
 | _, _, 0, _, _, hd, _ => by omega
theorem zQ (n v : Nat) (hv : v < 18446744073709551616) (hn : 20 ≤ n) : qcb n (v : Int) = some (varN v) := zkQ n 10 v n (by omega) hv (by omega) (by omega)
def fixN (k v : Nat) : List Int := (List.range k).map fun i => ((v / 256 ^ i % 256 : Nat) : Int)
theorem zbE (k v : Nat) : (fixN k v).length = k := by simp [fixN]
def pos (k : Int) : Nat := k.toNat
def typV (t : Int × Int) : List Int := varN (pos t.1) ++ varN (pos t.2)
theorem zag (t : Int × Int) : (typV t).length ≤ 22 := by
 have := zn (pos t.1)
 have := zn (pos t.2)
 rw [typV, List.length_append]; omega
def okI (x : Int) : Prop := -9223372036854775808 ≤ x ∧ x ≤ 9223372036854775807
def okT (t : Int × Int) : Prop := okI t.1 ∧ okI t.2
theorem zoz {k : Int} (h : okI k) : pos k < 18446744073709551616 := by
 unfold pos; unfold okI at h; omega
theorem maxI0 {k : Int} (h : okI k) : cvtI .u64 (maxI k 0) = ((pos k : Nat) : Int) := by
 unfold maxI pos; unfold okI at h
 by_cases h0 : k < 0
 ·rw [decide_eq_true (by omega), cond_true]
  have : k.toNat = 0 := by omega
  rw [this]; rfl
 ·rw [decide_eq_false (by omega), cond_false, zG (by omega) (by omega)]; omega
theorem qcr_eq (n : Nat) (t : Int × Int) (ht : okT t) (hn : 20 ≤ n) : qcr n t.1 t.2 = some (typV t) := by
 unfold qcr
 have hl := zag t
 rw [maxI0 ht.1, maxI0 ht.2, qcs_eq n _ (zoz ht.1) hn, Option.bind_some, qcs_eq n _ (zoz ht.2) hn, Option.bind_some]
 show (bif Nat.ble (typV t).length 4294967296 then some (typV t) else none) = _
 rw [zo (by omega), cond_true]
theorem zej (n : Nat) (t : Int × Int) (ht : okT t) (hn : 20 ≤ n) : qbk n t.1 t.2 = some (typV t) := by
 have hl := zag t
 have h0 : ∀ {k : Int}, okI k → k < 0 → qcb n (cvtI .u64 0) = some (varN (pos k)) := by
  intro k hk h
  rw [show cvtI .u64 0 = ((0 : Nat) : Int) from rfl, zQ n 0 (by omega) hn]
  have : pos k = 0 := by unfold pos; omega
  rw [this]
 have h1 : ∀ {k : Int}, okI k → ¬ k < 0 → qcb n (cvtI .u64 k) = some (varN (pos k)) := by
  intro k hk h
  unfold okI at hk
  have : cvtI .u64 k = ((pos k : Nat) : Int) := by
   rw [zG (by omega) (by omega)]; unfold pos; omega
  rw [this, zQ n _ (by unfold pos; omega) hn]
 have fin : (bif Nat.ble (varN (pos t.1) ++ varN (pos t.2)).length 4294967296 then some (varN (pos t.1) ++ varN (pos t.2)) else none) = some (typV t) := by
  show (bif Nat.ble (typV t).length 4294967296 then some (typV t) else none) = _
  rw [zo (by omega), cond_true]
 unfold qbk
 by_cases ha : t.1 < 0
 ·by_cases hb : t.2 < 0
  ·rw [decide_eq_true ha, cond_true, decide_eq_true hb, cond_true, h0 ht.1 ha, Option.bind_some]
   have := h0 ht.2 hb
   rw [h0 ht.1 ha] at this
   rw [Option.bind_some, Option.some.inj this, ← Option.some.inj this] 
   rw [Option.some.inj this] at fin ⊢
   exact fin
  ·rw [decide_eq_true ha, cond_true, decide_eq_false hb, cond_false, h0 ht.1 ha, Option.bind_some, h1 ht.2 hb, Option.bind_some]
   exact fin
 ·by_cases hb : t.2 < 0
  ·rw [decide_eq_false ha, cond_false, decide_eq_true hb, cond_true, h1 ht.1 ha, Option.bind_some, h0 ht.2 hb, Option.bind_some]
   exact fin
  ·rw [decide_eq_false ha, cond_false, decide_eq_false hb, cond_false, h1 ht.1 ha, Option.bind_some, h1 ht.2 hb, Option.bind_some]
   exact fin
def goodV (recs : Int) (t : Int × Int) : Bool :=
 if t.1 = 1 ∨ t.1 = 2 ∨ t.1 = 3 ∨ t.1 = 7 then t.2 == 0 else if t.1 = 4 then decide (0 ≤ t.2 ∧ t.2 < recs) else if t.1 = 5 then decide (0 ≤ t.2 ∧ t.2 < 4) else false
theorem zgS (n : Nat) (t : Int × Int) (recs : Int) : qcc n t.1 t.2 recs = some (goodV recs t) := by
 obtain ⟨k, m⟩ := t
 unfold qcc goodV
 simp only [Bool.cond_eq_ite, beq_iff_eq, decide_eq_true_eq]
 by_cases h1 : k = 1
 ·simp [h1]
 by_cases h2 : k = 2
 ·simp [h2]
 by_cases h3 : k = 3
 ·simp [h3]
 by_cases h7 : k = 7
 ·simp [h7]
 by_cases h4 : k = 4
 ·by_cases hm : 0 ≤ m <;> simp [h4, hm]
 by_cases h5 : k = 5
 ·by_cases hm : 0 ≤ m <;> simp [h5, hm]
 simp [h1, h2, h3, h4, h5, h7]
theorem zeg (n : Nat) (t : Int × Int) (recs : Int) : qbl n t.1 t.2 recs = some (goodV recs t) := zgS n t recs
end Sx
end
section
/- Instructions as bytes; lists of types. -/
set_option linter.unusedVariables false
set_option linter.unusedSimpArgs false
namespace Sx
open Go Go.Ab
def argsV (op : Int) : Int :=
 if op < 0 ∨ 42 ≤ op then -1 else if op = 29 ∨ op = 30 then 2
 else if op = 0 ∨ op = 1 ∨ op = 3 ∨ op = 4 ∨ op = 23 ∨ op = 24 ∨ op = 25 ∨ op = 27 ∨ op = 28 then 1 else 0
theorem zga (op : Int) : argsV op = -1 ∨ argsV op = 0 ∨ argsV op = 1 ∨ argsV op = 2 := by
 unfold argsV
 split
 ·exact .inl rfl
 ·split
  ·exact .inr (.inr (.inr rfl))
  ·split
   ·exact .inr (.inr (.inl rfl))
   ·exact .inr (.inl rfl)
theorem zdb {op : Int} (h : 0 ≤ argsV op) : 0 ≤ op ∧ op < 42 := by
 unfold argsV at h
 split at h <;> omega
theorem qce_eq (n : Nat) (op : Int) : qce n op = some (argsV op) := by
 by_cases h : 0 ≤ op ∧ op < 42
 ·obtain ⟨k, rfl⟩ : ∃ k : Nat, op = (k : Int) := ⟨op.toNat, by omega⟩
  have hk : ∀ k : Nat, k < 42 → qce 0 (k : Int) = some (argsV (k : Int)) := by decide +kernel
  exact hk k (by omega)
 ·have ha : argsV op = -1 := by
   unfold argsV
   rw [if_pos (by omega)]
  rw [ha]
  unfold qce
  simp only [Bool.cond_eq_ite, beq_iff_eq, decide_eq_true_eq]
  rw [if_neg (by omega), if_neg (by omega), if_neg (by omega), if_neg (by omega), if_neg (by omega), if_neg (by omega), if_neg (by omega), if_neg (by omega), if_neg (by omega), if_neg (by omega), if_neg (by omega)]
  by_cases h0 : op < 0
  ·rw [if_pos h0]
  ·rw [if_neg h0, if_pos (by omega)]
theorem zmk (n : Nat) (op : Int) (hn : 10 ≤ n) : qbn n op = some (argsV op) := by
 by_cases h : 0 ≤ op ∧ op < 42
 ·obtain ⟨k, rfl⟩ : ∃ k : Nat, op = (k : Int) := ⟨op.toNat, by omega⟩
  have hk : ∀ k : Nat, k < 42 → qbn 10 (k : Int) = some (argsV (k : Int)) := by decide +kernel
  have h3 := hk k (by omega)
  unfold qbn at h3 ⊢
  rw [decide_eq_false (by omega), cond_false, decide_eq_false (by omega), cond_false] at h3 ⊢
  cases h29 : ((k : Int) == 29) with
  | true => rw [h29] at h3; exact h3
  | false =>
   rw [h29, cond_false] at h3
   rw [cond_false]
   cases h30 : ((k : Int) == 30) with
   | true => rw [h30] at h3; exact h3
   | false =>
    rw [h30, cond_false] at h3
    rw [cond_false]
    obtain ⟨x, hx, h4⟩ := Option.bind_eq_some_iff.1 h3
    rw [show qbn_W0 n ((k : Int), [0, 1, 3, 4, 23, 24, 25, 27, 28], 0) = some x from zha (n := 10) hx n hn]
    exact h4
 ·have ha : argsV op = -1 := by
   unfold argsV
   rw [if_pos (by omega)]
  rw [ha]
  unfold qbn
  simp only [Bool.cond_eq_ite, beq_iff_eq, decide_eq_true_eq]
  by_cases h0 : op < 0
  ·rw [if_pos h0]
  ·rw [if_neg h0, if_pos (by omega)]
theorem qco_eq (n : Nat) (v : Int) (b : Bool) : qco n v b = some (decide (0 ≤ v ∧ v ≤ 255 ∧ (b = true ∨ v = 0))) := by
 unfold qco
 simp only [Bool.cond_eq_ite, decide_eq_true_eq]
 by_cases h1 : v ≥ 0
 ·by_cases h2 : v ≤ 255
  ·cases b with
   | true => rw [if_pos h1, if_pos h2, if_pos rfl, decide_eq_true (by simp; omega)]
   | false =>
    rw [if_pos h1, if_pos h2, if_neg (by simp)]
    by_cases h3 : v = 0
    ·simp [h3]
    ·rw [beq_false_of_ne h3, decide_eq_false (by simp; omega)]
  ·rw [if_pos h1, if_neg h2, decide_eq_false (by omega)]
 ·rw [if_neg h1, decide_eq_false (by omega)]
def badI (i : Int × Int × Int) : Bool :=
 decide (argsV i.1 < 0 ∨ ¬ (0 ≤ i.2.1 ∧ i.2.1 ≤ 255 ∧ (argsV i.1 > 0 ∨ i.2.1 = 0)) ∨ ¬ (0 ≤ i.2.2 ∧ i.2.2 ≤ 255 ∧ (argsV i.1 > 1 ∨ i.2.2 = 0)))
def putV (i : Int × Int × Int) : List Int :=
 if badI i = true then [] else i.1 :: ((if argsV i.1 > 0 then varN i.2.1.toNat else []) ++ (if argsV i.1 > 1 then varN i.2.2.toNat else []))
theorem zdt (i : Int × Int × Int) : (putV i).length ≤ 23 := by
 unfold putV
 have := zn i.2.1.toNat
 have := zn i.2.2.toNat
 split
 ·simp
 ·rw [List.length_cons, List.length_append]
  split <;> split <;> simp <;> omega
theorem zkA (i : Int × Int × Int) : ((putV i).length == 0) = badI i := by
 unfold putV
 cases badI i <;> simp
theorem zgN (n : Nat) (v : Int) (h1 : 0 ≤ v) (h2 : v ≤ 255) (hn : 20 ≤ n) : qcs n (cvtI .u64 v) = some (varN v.toNat) ∧ qcb n (cvtI .u64 v) = some (varN v.toNat) := by
 have : cvtI .u64 v = ((v.toNat : Nat) : Int) := by rw [zG h1 (by omega)]; omega
 rw [this]
 exact ⟨qcs_eq n _ (by omega) hn, zQ n _ (by omega) hn⟩
theorem qcn_eq (n : Nat) (i : Int × Int × Int) (hn : 20 ≤ n) : qcn n i.1 i.2.1 i.2.2 = some (putV i) := by
 obtain ⟨op, a, b⟩ := i
 unfold qcn putV badI
 rw [qce_eq, Option.bind_some]
 simp only []
 by_cases h0 : argsV op < 0
 ·rw [decide_eq_true h0, cond_true, if_pos (by rw [decide_eq_true (.inl h0)])]
 rw [decide_eq_false h0, cond_false, qco_eq, Option.bind_some]
 by_cases h1 : 0 ≤ a ∧ a ≤ 255 ∧ (argsV op > 0 ∨ a = 0)
 ·have h1' : 0 ≤ a ∧ a ≤ 255 ∧ (decide (argsV op > 0) = true ∨ a = 0) := by simpa using h1
  rw [decide_eq_true h1', Bool.not_true, cond_false, qco_eq, Option.bind_some]
  by_cases h2 : 0 ≤ b ∧ b ≤ 255 ∧ (argsV op > 1 ∨ b = 0)
  ·have h2' : 0 ≤ b ∧ b ≤ 255 ∧ (decide (argsV op > 1) = true ∨ b = 0) := by simpa using h2
   have hop := zdb (op := op) (by omega)
   rw [decide_eq_true h2', Bool.not_true, cond_false, if_neg (by rw [decide_eq_false]; simp; exact fun h => by rcases h with h | h | h; exact h0 h; exact h h1; exact h h2), zcC hop.1 (by omega)]
   have va := (zgN n a h1.1 h1.2.1 hn).1
   have vb := (zgN n b h2.1 h2.2.1 hn).1
   have la := zn a.toNat
   have lb := zn b.toNat
   rcases zga op with hk | hk | hk | hk
   ·omega
   ·rw [hk]
    obtain ⟨m, rfl⟩ : ∃ m, n = m + 1 := ⟨n - 1, by omega⟩
    rw [show (decide ((0 : Int) ≤ 0) && decide ((0 : Int) ≤ 2)) = true from rfl, cond_true]
    have h : qcn_W0 (m + 1) (((0, (Int.toNat 0) - 0), (((((Int.toNat 0) - 0) : Nat) : Int), 0)), ([op], (a, b))) = some ([op], (a, b)) := by
     refine zR ?_
     rfl
    rw [h]
    rfl
   ·rw [hk]
    obtain ⟨m, rfl⟩ : ∃ m, n = m + 2 := ⟨n - 2, by omega⟩
    rw [show (decide ((0 : Int) ≤ 1) && decide ((1 : Int) ≤ 2)) = true from rfl, cond_true]
    have h : qcn_W0 (m + 2) (((0, (Int.toNat 1) - 0), (((((Int.toNat 1) - 0) : Nat) : Int), 0)), ([op], (a, b))) = some ([op] ++ varN a.toNat, (a, b)) := by
     refine (zE (s' := (((0, 1), ((1 : Int), (1 : Int))), ([op] ++ varN a.toNat, (a, b)))) ?_).trans (zR ?_)
     ·show ((qcs (m + 2) (cvtI .u64 a)).bind fun r46 => bif Nat.ble ([op] ++ r46).length 4294967296 then some (Sum.inl (((0, 1), ((1 : Int), (addI .i64 0 1))), (([op] ++ r46), (a, b)))) else none) = _
      rw [va, Option.bind_some, zo (by simp; omega)]
      rfl
     ·rfl
    rw [h]
    simp
   ·rw [hk]
    obtain ⟨m, rfl⟩ : ∃ m, n = m + 3 := ⟨n - 3, by omega⟩
    rw [show (decide ((0 : Int) ≤ 2) && decide ((2 : Int) ≤ 2)) = true from rfl, cond_true]
    have h : qcn_W0 (m + 3) (((0, (Int.toNat 2) - 0), (((((Int.toNat 2) - 0) : Nat) : Int), 0)), ([op], (a, b))) = some (([op] ++ varN a.toNat) ++ varN b.toNat, (a, b)) := by
     refine (zE (s' := (((0, 2), ((2 : Int), (1 : Int))), ([op] ++ varN a.toNat, (a, b)))) ?_).trans ((zE (s' := (((0, 2), ((2 : Int), (2 : Int))), (([op] ++ varN a.toNat) ++ varN b.toNat, (a, b)))) ?_).trans (zR ?_))
     ·show ((qcs (m + 3) (cvtI .u64 a)).bind fun r46 => bif Nat.ble ([op] ++ r46).length 4294967296 then some (Sum.inl (((0, 2), ((2 : Int), (addI .i64 0 1))), (([op] ++ r46), (a, b)))) else none) = _
      rw [va, Option.bind_some, zo (by simp; omega)]
      rfl
     ·show ((qcs (m + 3) (cvtI .u64 b)).bind fun r46 => bif Nat.ble (([op] ++ varN a.toNat) ++ r46).length 4294967296 then some (Sum.inl (((0, 2), ((2 : Int), (addI .i64 1 1))), ((([op] ++ varN a.toNat) ++ r46), (a, b)))) else none) = _
      rw [vb, Option.bind_some, zo (by simp; omega)]
      rfl
     ·rfl
    rw [h]
    simp
  ·have h2' : ¬ (0 ≤ b ∧ b ≤ 255 ∧ (decide (argsV op > 1) = true ∨ b = 0)) := by simpa using h2
   rw [decide_eq_false h2', Bool.not_false, cond_true, if_pos (by rw [decide_eq_true (.inr (.inr h2))])]
 ·have h1' : ¬ (0 ≤ a ∧ a ≤ 255 ∧ (decide (argsV op > 0) = true ∨ a = 0)) := by simpa using h1
  rw [decide_eq_false h1', Bool.not_false, cond_true, if_pos (by rw [decide_eq_true (.inr (.inl h1))])]
theorem zkw (n : Nat) (i : Int × Int × Int) (hn : 20 ≤ n) : qas n i.1 i.2.1 i.2.2 = some (putV i) := by
 obtain ⟨op, a, b⟩ := i
 unfold qas putV badI
 rw [zmk n _ (by omega), Option.bind_some]
 simp only [Bool.cond_eq_ite, decide_eq_true_eq, bne_iff_ne]
 by_cases h0 : argsV op < 0
 ·rw [if_pos h0, if_pos (.inl h0)]
 rw [if_neg h0]
 by_cases ha0 : a < 0
 ·rw [if_pos ha0, if_pos (by omega)]
 rw [if_neg ha0]
 by_cases ha1 : a > 255
 ·rw [if_pos ha1, if_pos (by omega)]
 rw [if_neg ha1]
 by_cases hb0 : b < 0
 ·rw [if_pos hb0, if_pos (by omega)]
 rw [if_neg hb0]
 by_cases hb1 : b > 255
 ·rw [if_pos hb1, if_pos (by omega)]
 rw [if_neg hb1]
 have hop := zdb (op := op) (by omega)
 have va := (zgN n a (by omega) (by omega) hn).2
 have vb := (zgN n b (by omega) (by omega) hn).2
 have la := zn a.toNat
 have lb := zn b.toNat
 rw [zcC hop.1 (by omega), va, vb]
 simp only [Option.bind_some]
 have f1 : Nat.ble ([op] ++ varN a.toNat).length 4294967296 = true := zo (by simp; omega)
 have f2 : Nat.ble ([op] ++ varN b.toNat).length 4294967296 = true := zo (by simp; omega)
 have f3 : Nat.ble (([op] ++ varN a.toNat) ++ varN b.toNat).length 4294967296 = true := zo (by simp; omega)
 rw [f1, f2, f3]
 rcases zga op with hk | hk | hk | hk
 ·omega
 ·rw [hk]
  by_cases ha : a = 0
  ·by_cases hb : b = 0
   ·simp [ha, hb]
   ·simp [ha, hb]
  ·simp [ha]
 ·rw [hk]
  by_cases hb : b = 0
  ·simp [hb]; omega
  ·simp [hb]
 ·rw [hk]
  simp; omega
end Sx
end
section
/- What may be a module, and its bytes: what the program's functions come to. -/
set_option linter.unusedVariables false
set_option linter.unusedSimpArgs false
namespace Sx
open Go Go.Ab
abbrev TyD := Int × Int
abbrev InD := Int × Int × Int
abbrev FnD := List TyD × Int × Int × List TyD × List InD
abbrev ImD := List TyD × Int × Int
def goodsV (recs most : Int) (l : List TyD) : Bool := decide ((l.length : Int) ≤ most) && l.all (goodV recs)
theorem findType (n : Nat) (l : List TyD) (recs : Int) (hl : l.length ≤ 4294967000) (hn : l.length < n) : qo n l recs = some (l.any (fun t => !goodV recs t), recs) := by
 unfold qo qae
 have h := zr (B := fun s => qae_B0 n s.1.1 s.1.2.1 s.1.2.2 s.2) (xs := l) (mk := fun i => ((l, (lenI l, (i : Int))), recs)) (p := fun t => !goodV recs t) (found := fun i x => Sum.inl ((i : Int), recs)) (e := Sum.inr recs)
  (fun i x hx => ?_) ?_ l.length 0 n (by omega) hn
 ·rw [List.drop_zero] at h
  rcases h with ⟨h1, k, x, _, _, h2⟩ | ⟨h1, h2⟩
  ·rw [show qae_W0 n ((l, (lenI l, 0)), recs) = some (Sum.inl ((k : Int), recs)) from h2, h1]
   show some (decide ((k : Int) ≥ 0), recs) = _
   rw [decide_eq_true (by omega)]
  ·rw [show qae_W0 n ((l, (lenI l, 0)), recs) = some (Sum.inr recs) from h2, h1]
   rfl
 ·have hi := zk hx
  show qae_B0 n l (lenI l) (i : Int) recs = _
  unfold qae_B0 qan
  rw [zb, decide_eq_true (by omega), cond_true, ze, hx, Option.bind_some, zgS, Option.bind_some, Option.bind_some, zg (by omega)]
  cases goodV recs x <;> rfl
 ·show qae_B0 n l (lenI l) (l.length : Int) recs = _
  unfold qae_B0
  rw [zb, decide_eq_false (by omega), cond_false]
theorem zdG {α : Type} (p : α → Bool) (l : List α) : (!l.any fun t => !p t) = l.all p := by
 induction l with
 | nil => rfl
 | cons x l ih => rw [List.any_cons, List.all_cons, ← ih]; cases p x <;> simp
theorem zob (n : Nat) (l : List TyD) (recs most : Int) (hl : l.length ≤ 4294967000) (hn : l.length < n) : qau n l recs most = some (goodsV recs most l) := by
 unfold qau goodsV
 rw [zb, findType n l recs hl hn, Option.bind_some]
 show (bif decide ((l.length : Int) ≤ most) then some (!l.any fun t => !goodV recs t) else some false) = _
 rw [zdG]
 cases decide ((l.length : Int) ≤ most) <;> rfl
theorem zdC (n : Nat) (l : List TyD) (recs most : Int) (hm : most ≤ 64) (hn : 100 ≤ n) : qau n l recs most = some (goodsV recs most l) := by
 by_cases h : (l.length : Int) ≤ most
 ·exact zob n l recs most (by omega) (by omega)
 ·unfold qau goodsV
  rw [zb, decide_eq_false h, cond_false]
  rfl
theorem findTypes (n : Nat) (l : List (List TyD)) (recs : Int) (hl : l.length ≤ 64) (hn : 100 ≤ n) : qg n l recs = some (l.any (fun t => !goodsV recs 6 t), recs) := by
 unfold qg qt
 have h := zr (B := fun s => qt_B0 n s.1.1 s.1.2.1 s.1.2.2 s.2) (xs := l) (mk := fun i => ((l, (lenI l, (i : Int))), recs)) (p := fun t => !goodsV recs 6 t) (found := fun i x => Sum.inl ((i : Int), recs)) (e := Sum.inr recs)
  (fun i x hx => ?_) ?_ l.length 0 n (by omega) (by omega)
 ·rw [List.drop_zero] at h
  rcases h with ⟨h1, k, x, _, _, h2⟩ | ⟨h1, h2⟩
  ·rw [show qt_W0 n ((l, (lenI l, 0)), recs) = some (Sum.inl ((k : Int), recs)) from h2, h1]
   show some (decide ((k : Int) ≥ 0), recs) = _
   rw [decide_eq_true (by omega)]
  ·rw [show qt_W0 n ((l, (lenI l, 0)), recs) = some (Sum.inr recs) from h2, h1]
   rfl
 ·have hi := zk hx
  show qt_B0 n l (lenI l) (i : Int) recs = _
  unfold qt_B0 qar
  rw [zb, decide_eq_true (by omega), cond_true, ze, hx, Option.bind_some, zdC n x recs 6 (by omega) hn, Option.bind_some, Option.bind_some, zg (by omega)]
  cases goodsV recs 6 x <;> rfl
 ·show qt_B0 n l (lenI l) (l.length : Int) recs = _
  unfold qt_B0
  rw [zb, decide_eq_false (by omega), cond_false]
theorem findInstr (n : Nat) (l : List InD) (hl : l.length ≤ 64) (hn : 100 ≤ n) : qi n l = some (l.any badI) := by
 unfold qi qw
 have h := zr (B := fun s => qw_B0 n s.1 s.2.1 s.2.2) (xs := l) (mk := fun i => (l, (lenI l, (i : Int)))) (p := badI) (found := fun i x => Sum.inl (i : Int)) (e := Sum.inr ())
  (fun i x hx => ?_) ?_ l.length 0 n (by omega) (by omega)
 ·rw [List.drop_zero] at h
  rcases h with ⟨h1, k, x, _, _, h2⟩ | ⟨h1, h2⟩
  ·rw [show qw_W0 n (l, (lenI l, 0)) = some (Sum.inl (k : Int)) from h2, h1]
   show some (decide ((k : Int) ≥ 0)) = _
   rw [decide_eq_true (by omega)]
  ·rw [show qw_W0 n (l, (lenI l, 0)) = some (Sum.inr ()) from h2, h1]
   rfl
 ·have hi := zk hx
  show qw_B0 n l (lenI l) (i : Int) = _
  unfold qw_B0 qx
  rw [zb, decide_eq_true (by omega), cond_true, ze, hx, Option.bind_some, qcn_eq n x (by omega), Option.bind_some, Option.bind_some, zg (by omega), zb]
  have : (((putV x).length : Int) == 0) = badI x := by
   rw [← zkA]
   cases (putV x).length <;> rfl
  rw [this]
  cases badI x <;> rfl
 ·show qw_B0 n l (lenI l) (l.length : Int) = _
  unfold qw_B0
  rw [zb, decide_eq_false (by omega), cond_false]
def fitF (recs : Int) (f : FnD) : Bool :=
 goodsV recs 4 f.1 && (goodV recs (f.2.1, f.2.2.1) && (goodsV recs (8 - (f.1.length : Int)) f.2.2.2.1 && (decide (1 ≤ f.2.2.2.2.length) && (decide (f.2.2.2.2.length ≤ 64) && !f.2.2.2.2.any badI))))
theorem zoU (n : Nat) (f : FnD) (recs : Int) (hn : 100 ≤ n) : qac n f.1 f.2.1 f.2.2.1 f.2.2.2.1 f.2.2.2.2 recs = some (fitF recs f) := by
 obtain ⟨a, k, m, l, c⟩ := f
 unfold qac fitF
 rw [zdC n a recs 4 (by omega) hn, Option.bind_some]
 simp only []
 cases hg : goodsV recs 4 a with
 | false => rfl
 | true =>
  have ha : (a.length : Int) ≤ 4 := by
   simp only [goodsV, Bool.and_eq_true, decide_eq_true_eq] at hg
   exact hg.1
  rw [cond_true, zgS n (k, m) recs, Option.bind_some]
  cases goodV recs (k, m) with
  | false => rfl
  | true =>
   rw [cond_true, zb, zA (by omega) (by omega), zdC n l recs _ (by omega) hn, Option.bind_some]
   cases goodsV recs (8 - (a.length : Int)) l with
   | false => rfl
   | true =>
    rw [cond_true, zb]
    by_cases h1 : 1 ≤ c.length
    ·rw [decide_eq_true (by omega), cond_true, decide_eq_true h1]
     by_cases h2 : c.length ≤ 64
     ·rw [decide_eq_true (by omega), cond_true, decide_eq_true h2, findInstr n c h2 hn, Option.bind_some]
      simp
     ·rw [decide_eq_false (by omega), cond_false, decide_eq_false h2]
      rfl
    ·rw [decide_eq_false (by omega), cond_false, decide_eq_false h1]
     rfl
theorem findFunc (n : Nat) (l : List FnD) (recs : Int) (hl : l.length ≤ 64) (hn : 100 ≤ n) : qm n l recs = some (l.any (fun t => !fitF recs t), recs) := by
 unfold qm qad
 have h := zr (B := fun s => qad_B0 n s.1.1 s.1.2.1 s.1.2.2 s.2) (xs := l) (mk := fun i => ((l, (lenI l, (i : Int))), recs)) (p := fun t => !fitF recs t) (found := fun i x => Sum.inl ((i : Int), recs)) (e := Sum.inr recs)
  (fun i x hx => ?_) ?_ l.length 0 n (by omega) (by omega)
 ·rw [List.drop_zero] at h
  rcases h with ⟨h1, k, x, _, _, h2⟩ | ⟨h1, h2⟩
  ·rw [show qad_W0 n ((l, (lenI l, 0)), recs) = some (Sum.inl ((k : Int), recs)) from h2, h1]
   show some (decide ((k : Int) ≥ 0), recs) = _
   rw [decide_eq_true (by omega)]
  ·rw [show qad_W0 n ((l, (lenI l, 0)), recs) = some (Sum.inr recs) from h2, h1]
   rfl
 ·have hi := zk hx
  show qad_B0 n l (lenI l) (i : Int) recs = _
  unfold qad_B0 qal
  rw [zb, decide_eq_true (by omega), cond_true, ze, hx, Option.bind_some, zoU n x recs hn, Option.bind_some, Option.bind_some, zg (by omega)]
  cases fitF recs x <;> rfl
 ·show qad_B0 n l (lenI l) (l.length : Int) recs = _
  unfold qad_B0
  rw [zb, decide_eq_false (by omega), cond_false]
def fitI (recs : Int) (i : ImD) : Bool := goodsV recs 4 i.1 && goodV recs (i.2.1, i.2.2)
theorem findImport (n : Nat) (l : List ImD) (recs : Int) (hl : l.length ≤ 64) (hn : 100 ≤ n) : qh n l recs = some (l.any (fun t => !fitI recs t), recs) := by
 unfold qh qq
 have h := zr (B := fun s => qq_B0 n s.1.1 s.1.2.1 s.1.2.2 s.2) (xs := l) (mk := fun i => ((l, (lenI l, (i : Int))), recs)) (p := fun t => !fitI recs t) (found := fun i x => Sum.inl ((i : Int), recs)) (e := Sum.inr recs)
  (fun i x hx => ?_) ?_ l.length 0 n (by omega) (by omega)
 ·rw [List.drop_zero] at h
  rcases h with ⟨h1, k, x, _, _, h2⟩ | ⟨h1, h2⟩
  ·rw [show qq_W0 n ((l, (lenI l, 0)), recs) = some (Sum.inl ((k : Int), recs)) from h2, h1]
   show some (decide ((k : Int) ≥ 0), recs) = _
   rw [decide_eq_true (by omega)]
  ·rw [show qq_W0 n ((l, (lenI l, 0)), recs) = some (Sum.inr recs) from h2, h1]
   rfl
 ·have hi := zk hx
  show qq_B0 n l (lenI l) (i : Int) recs = _
  unfold qq_B0 qam
  rw [zb, decide_eq_true (by omega), cond_true, ze, hx, Option.bind_some, zdC n x.1 recs 4 (by omega) hn, Option.bind_some, zg (by omega)]
  unfold fitI
  cases goodsV recs 4 x.1 with
  | false => rfl
  | true =>
   rw [Bool.not_true, cond_false, zgS n (x.2.1, x.2.2) recs, Option.bind_some, Option.bind_some]
   cases goodV recs (x.2.1, x.2.2) <;> rfl
 ·show qq_B0 n l (lenI l) (l.length : Int) recs = _
  unfold qq_B0
  rw [zb, decide_eq_false (by omega), cond_false]
theorem findString (n : Nat) (l : List ByteArray) (hl : l.length ≤ 64) (hn : 100 ≤ n) : qe n l = some (l.any (fun s => decide (s.size > 32))) := by
 unfold qe qu
 have h := zr (B := fun s => qu_B0 n s.1 s.2.1 s.2.2) (xs := l) (mk := fun i => (l, (lenI l, (i : Int)))) (p := fun s => decide (s.size > 32)) (found := fun i x => Sum.inl (i : Int)) (e := Sum.inr ())
  (fun i x hx => ?_) ?_ l.length 0 n (by omega) (by omega)
 ·rw [List.drop_zero] at h
  rcases h with ⟨h1, k, x, _, _, h2⟩ | ⟨h1, h2⟩
  ·rw [show qu_W0 n (l, (lenI l, 0)) = some (Sum.inl (k : Int)) from h2, h1]
   show some (decide ((k : Int) ≥ 0)) = _
   rw [decide_eq_true (by omega)]
  ·rw [show qu_W0 n (l, (lenI l, 0)) = some (Sum.inr ()) from h2, h1]
   rfl
 ·have hi := zk hx
  show qu_B0 n l (lenI l) (i : Int) = _
  unfold qu_B0 qak
  rw [zb, decide_eq_true (by omega), cond_true, ze, hx, Option.bind_some, Option.bind_some, zg (by omega)]
  have : decide (lenS x > 32) = decide (x.size > 32) := by
   unfold lenS
   by_cases h : x.size > 32
   ·rw [decide_eq_true h, decide_eq_true (by omega)]
   ·rw [decide_eq_false h, decide_eq_false (by omega)]
  rw [this]
  cases decide (x.size > 32) <;> rfl
 ·show qu_B0 n l (lenI l) (l.length : Int) = _
  unfold qu_B0
  rw [zb, decide_eq_false (by omega), cond_false]
structure ModD where
 recs : List (List TyD)
 funcs : List FnD
 imps : List ImD
 ints : List Int
 texts : List ByteArray
def fitsV (m : ModD) : Bool :=
 decide (m.recs.length ≤ 8) && (m.recs.all (goodsV m.recs.length 6) && (decide (1 ≤ m.funcs.length) && (decide (m.funcs.length ≤ 8) && (m.funcs.all (fitF m.recs.length) &&
  (decide (m.imps.length ≤ 8) && (m.imps.all (fitI m.recs.length) && (decide (m.ints.length ≤ 16) && (decide (m.texts.length ≤ 16) && m.texts.all fun s => decide (s.size ≤ 32)))))))))
theorem zpj (l : List ByteArray) : (!l.any fun s => decide (s.size > 32)) = l.all fun s => decide (s.size ≤ 32) := by
 rw [← zdG]
 congr 2
 funext s
 by_cases h : s.size > 32
 ·rw [decide_eq_true h, decide_eq_false (by omega)]; rfl
 ·rw [decide_eq_false h, decide_eq_true (by omega)]; rfl
theorem zoW (n : Nat) (m : ModD) (hn : 100 ≤ n) : qav n m.recs m.funcs m.imps m.ints m.texts = some (fitsV m) := by
 unfold qav fitsV
 rw [zb m.recs, zb m.funcs, zb m.imps, zb m.ints, zb m.texts]
 by_cases h1 : m.recs.length ≤ 8
 ·rw [decide_eq_true (by omega : (m.recs.length : Int) ≤ 8), cond_true, decide_eq_true h1, findTypes n m.recs _ (by omega) hn, Option.bind_some, zdG, Bool.true_and]
  cases m.recs.all (goodsV m.recs.length 6) with
  | false => rfl
  | true =>
   rw [cond_true, Bool.true_and]
   by_cases h2 : 1 ≤ m.funcs.length
   ·rw [decide_eq_true (by omega : (m.funcs.length : Int) ≥ 1), cond_true, decide_eq_true h2, Bool.true_and]
    by_cases h3 : m.funcs.length ≤ 8
    ·rw [decide_eq_true (by omega : (m.funcs.length : Int) ≤ 8), cond_true, decide_eq_true h3, findFunc n m.funcs _ (by omega) hn, Option.bind_some, zdG, Bool.true_and]
     cases m.funcs.all (fitF m.recs.length) with
     | false => rfl
     | true =>
      rw [cond_true, Bool.true_and]
      by_cases h4 : m.imps.length ≤ 8
      ·rw [decide_eq_true (by omega : (m.imps.length : Int) ≤ 8), cond_true, decide_eq_true h4, findImport n m.imps _ (by omega) hn, Option.bind_some, zdG, Bool.true_and]
       cases m.imps.all (fitI m.recs.length) with
       | false => rfl
       | true =>
        rw [cond_true, Bool.true_and]
        by_cases h5 : m.ints.length ≤ 16
        ·rw [decide_eq_true (by omega : (m.ints.length : Int) ≤ 16), cond_true, decide_eq_true h5, Bool.true_and]
         by_cases h6 : m.texts.length ≤ 16
         ·rw [decide_eq_true (by omega : (m.texts.length : Int) ≤ 16), cond_true, decide_eq_true h6, Bool.true_and, findString n m.texts (by omega) hn, Option.bind_some, zpj]
         ·rw [decide_eq_false (by omega : ¬ (m.texts.length : Int) ≤ 16), cond_false, decide_eq_false h6]; rfl
        ·rw [decide_eq_false (by omega : ¬ (m.ints.length : Int) ≤ 16), cond_false, decide_eq_false h5]; rfl
      ·rw [decide_eq_false (by omega : ¬ (m.imps.length : Int) ≤ 8), cond_false, decide_eq_false h4]; rfl
    ·rw [decide_eq_false (by omega : ¬ (m.funcs.length : Int) ≤ 8), cond_false, decide_eq_false h3]; rfl
   ·rw [decide_eq_false (by omega : ¬ (m.funcs.length : Int) ≥ 1), cond_false, decide_eq_false h2]; rfl
 ·rw [decide_eq_false (by omega : ¬ (m.recs.length : Int) ≤ 8), cond_false, decide_eq_false h1]; rfl
end Sx
end
section
/- The bytes of a module, as the program writes them. -/
set_option linter.unusedVariables false
set_option linter.unusedSimpArgs false
namespace Sx
open Go Go.Ab
def okTs (l : List TyD) : Prop := ∀ t ∈ l, okT t
structure OkM (m : ModD) : Prop where
 recs : ∀ l ∈ m.recs, okTs l
 funcs : ∀ f ∈ m.funcs, okTs f.1 ∧ okT (f.2.1, f.2.2.1) ∧ okTs f.2.2.2.1
 imps : ∀ i ∈ m.imps, okTs i.1 ∧ okT (i.2.1, i.2.2)
 ints : ∀ v ∈ m.ints, 0 ≤ v ∧ v ≤ 18446744073709551615
def typesV (l : List TyD) : List Int := varN l.length ++ l.flatMap typV
theorem zad (l : List TyD) : (typesV l).length ≤ 11 + 22 * l.length := by
 have := zn l.length
 have := zy typV 22 l fun t _ => zag t
 rw [typesV, List.length_append]; omega
def fncV (f : FnD) : List Int := typesV f.1 ++ typV (f.2.1, f.2.2.1) ++ typesV f.2.2.2.1 ++ varN f.2.2.2.2.length ++ f.2.2.2.2.flatMap putV
def impV (i : ImD) : List Int := typesV i.1 ++ typV (i.2.1, i.2.2)
def txtV (s : ByteArray) : List Int := varN s.size ++ bytesInts s
def listV {α : Type} (f : α → List Int) (l : List α) : List Int := varN l.length ++ l.flatMap f
def joinV (l : List (List Int)) : List Int := listV (fun p => varN p.length ++ p) l
def encV (m : ModD) : List Int := joinV [listV typesV m.recs, listV fncV m.funcs, listV impV m.imps, listV (fun v => fixN 8 v.toNat) m.ints, listV txtV m.texts]
theorem zdw (n k : Nat) (hk : k ≤ 4294967000) (hn : 20 ≤ n) : ql n (k : Int) = some (varN k) := by
 unfold ql
 have := zn k
 rw [zG (by omega) (by omega), qcs_eq n k (by omega) hn, Option.bind_some, zo (by omega), cond_true]
theorem zfM (n k : Nat) (m1 : List Int) (hk : k ≤ 4294967000) (hm : m1.length ≤ 4294900000) (hn : 20 ≤ n) : qc n (k : Int) m1 = some (m1 ++ varN k) := by
 unfold qc
 have := zn k
 rw [zG (by omega) (by omega), qcs_eq n k (by omega) hn, Option.bind_some, zo (by rw [List.length_append]; omega), cond_true]
theorem zdx (n : Nat) (l : List TyD) (m1 : List Int) (ho : okTs l) (hl : l.length ≤ 100) (hm : m1.length ≤ 4294000000) (hn : 200 ≤ n) : qk n l m1 = some (m1 ++ typesV l) := by
 unfold qk
 have hv := zn l.length
 rw [zb, zfM n _ m1 (by omega) (by omega) (by omega), Option.bind_some]
 have h := zT (B := fun s => qk_B0 n s.1.1 s.1.2.1 s.1.2.2 s.2) (xs := l) (mk := fun i a => ((l, ((l.length : Int), (i : Int))), a)) (f := typV) (e := id) (c := 22) (m0 := m1 ++ varN l.length) (cap := 4294967296)
  (fun x _ => zag x) (by rw [List.length_append]; omega) (fun i a x hx hmem ha => ?_) (fun a => ?_) (n := n) (by omega)
 ·rw [show qk_W0 n ((l, ((l.length : Int), 0)), m1 ++ varN l.length) = _ from h, Option.bind_some, id, List.append_assoc]
  rfl
 ·have hi := zk hx
  show qk_B0 n l (l.length : Int) (i : Int) a = _
  unfold qk_B0
  rw [decide_eq_true (by omega), cond_true, ze, hx, Option.bind_some, qcr_eq n x (ho x hmem) (by omega), Option.bind_some, zo (by rw [List.length_append]; omega), cond_true, zg (by omega)]
 ·show qk_B0 n l (l.length : Int) (l.length : Int) a = _
  unfold qk_B0
  rw [decide_eq_false (by omega), cond_false]; rfl
theorem zaI {recs most : Int} {l : List TyD} (h : goodsV recs most l = true) : (l.length : Int) ≤ most := by
 simp only [goodsV, Bool.and_eq_true, decide_eq_true_eq] at h
 exact h.1
theorem zmz (n : Nat) (m : ModD) (ho : OkM m) (hf : fitsV m = true) (hn : 200 ≤ n) : qy n m.recs m.funcs m.imps m.ints m.texts = some (listV typesV m.recs) ∧ (listV typesV m.recs).length ≤ 2000 := by
 simp only [fitsV, Bool.and_eq_true, decide_eq_true_eq, List.all_eq_true] at hf
 obtain ⟨h1, h2, _⟩ := hf
 have hc : ∀ x ∈ m.recs, (typesV x).length ≤ 143 := fun x hx => by
  have := zad x
  have := zaI (h2 x hx)
  omega
 have hv := zn m.recs.length
 refine ⟨?_, by have := zy typesV 143 m.recs hc; rw [listV, List.length_append]; omega⟩
 unfold qy
 rw [zb, zdw n _ (by omega) (by omega), Option.bind_some]
 have h := zT (B := fun s => qy_B0 n s.1.1 s.1.2.1 s.1.2.2 s.2) (xs := m.recs) (mk := fun i a => ((m.recs, ((m.recs.length : Int), (i : Int))), a)) (f := typesV) (e := id) (c := 143) (m0 := varN m.recs.length) (cap := 4000)
  hc (by omega) (fun i a x hx hmem ha => ?_) (fun a => ?_) (n := n) (by omega)
 ·rw [show qy_W0 n ((m.recs, ((m.recs.length : Int), 0)), varN m.recs.length) = _ from h, Option.bind_some]
  rfl
 ·have hi := zk hx
  show qy_B0 n m.recs (m.recs.length : Int) (i : Int) a = _
  unfold qy_B0
  have := zaI (h2 x hmem)
  rw [decide_eq_true (by omega), cond_true, ze, hx, Option.bind_some, zdx n x a (ho.recs x hmem) (by omega) (by omega) hn, Option.bind_some, zg (by omega)]
 ·show qy_B0 n m.recs (m.recs.length : Int) (m.recs.length : Int) a = _
  unfold qy_B0
  rw [decide_eq_false (by omega), cond_false]; rfl
theorem zcZ {recs : Int} {f : FnD} (h : fitF recs f = true) : f.1.length ≤ 4 ∧ f.2.2.2.1.length ≤ 8 ∧ 1 ≤ f.2.2.2.2.length ∧ f.2.2.2.2.length ≤ 64 ∧ (fncV f).length ≤ 1900 := by
 simp only [fitF, Bool.and_eq_true, decide_eq_true_eq] at h
 obtain ⟨h1, _, h3, h4, h5, _⟩ := h
 have h1 := zaI h1
 have h3 := zaI h3
 have := zad f.1
 have := zad f.2.2.2.1
 have := zag (f.2.1, f.2.2.1)
 have := zn f.2.2.2.2.length
 have := zy putV 23 f.2.2.2.2 fun i _ => zdt i
 refine ⟨by omega, by omega, h4, h5, ?_⟩
 simp only [fncV, List.length_append]
 omega
theorem zjX (n : Nat) (m : ModD) (ho : OkM m) (hf : fitsV m = true) (hn : 200 ≤ n) : qr n m.recs m.funcs m.imps m.ints m.texts = some (listV fncV m.funcs) ∧ (listV fncV m.funcs).length ≤ 20000 := by
 simp only [fitsV, Bool.and_eq_true, decide_eq_true_eq, List.all_eq_true] at hf
 obtain ⟨_, _, h0, h1, h2, _⟩ := hf
 have hc : ∀ x ∈ m.funcs, (fncV x).length ≤ 1900 := fun x hx => (zcZ (h2 x hx)).2.2.2.2
 have hv := zn m.funcs.length
 refine ⟨?_, by have := zy fncV 1900 m.funcs hc; rw [listV, List.length_append]; omega⟩
 unfold qr
 rw [zb, zdw n _ (by omega) (by omega), Option.bind_some]
 have h := zT (B := fun s => qr_B0 n s.1.1 s.1.2.1 s.1.2.2 s.2) (xs := m.funcs) (mk := fun i a => ((m.funcs, ((m.funcs.length : Int), (i : Int))), a)) (f := fncV) (e := id) (c := 1900) (m0 := varN m.funcs.length) (cap := 40000)
  hc (by omega) (fun i a x hx hmem ha => ?_) (fun a => ?_) (n := n) (by omega)
 ·rw [show qr_W0 n ((m.funcs, ((m.funcs.length : Int), 0)), varN m.funcs.length) = _ from h, Option.bind_some]
  rfl
 ·have hi := zk hx
  obtain ⟨l1, l2, l3, l4, _⟩ := zcZ (h2 x hmem)
  obtain ⟨o1, o2, o3⟩ := ho.funcs x hmem
  obtain ⟨ar, k, nn, lo, co⟩ := x
  have t1 := zad ar
  have t2 := zad lo
  have t3 := zag (k, nn)
  have t4 := zn co.length
  have t5 := zy putV 23 co fun i _ => zdt i
  simp only at l1 l2 l3 l4 o1 o2 o3
  show qr_B0 n m.funcs (m.funcs.length : Int) (i : Int) a = _
  unfold qr_B0
  rw [decide_eq_true (by omega), cond_true, ze, hx, Option.bind_some]
  simp only []
  rw [zdx n ar a o1 (by omega) (by omega) hn, Option.bind_some, qcr_eq n (k, nn) o2 (by omega), Option.bind_some, zo (by simp only [List.length_append]; omega), cond_true, zdx n lo _ o3 (by omega) (by simp only [List.length_append]; omega) hn, Option.bind_some,
   zb, zfM n _ _ (by omega) (by simp only [List.length_append]; omega) (by omega), Option.bind_some]
  have hin := zT (B := fun s => qr_B2 n s.1.1 s.1.2.1 s.1.2.2.1 s.1.2.2.2.1 s.1.2.2.2.2.1 s.1.2.2.2.2.2 s.2) (xs := co) (mk := fun j b => ((m.funcs, ((m.funcs.length : Int), ((i : Int), (co, ((co.length : Int), (j : Int)))))), b)) (f := putV)
   (e := fun b => ((m.funcs, ((m.funcs.length : Int), (i : Int))), b)) (c := 23) (m0 := a ++ typesV ar ++ typV (k, nn) ++ typesV lo ++ varN co.length) (cap := 4294967296) (fun y _ => zdt y) (by simp only [List.length_append]; omega) (fun j b y hy hmy hb => ?_) (fun b => ?_) (n := n) (by omega)
  ·rw [show qr_W2 n ((m.funcs, ((m.funcs.length : Int), ((i : Int), (co, ((co.length : Int), 0))))), a ++ typesV ar ++ typV (k, nn) ++ typesV lo ++ varN co.length) = _ from hin, Option.bind_some]
   simp only []
   rw [zg (by omega)]
   simp only [fncV, List.append_assoc]
  ·have hj := zk hy
   show qr_B2 n m.funcs (m.funcs.length : Int) (i : Int) co (co.length : Int) (j : Int) b = _
   unfold qr_B2
   rw [decide_eq_true (by omega), cond_true, ze, hy, Option.bind_some, qcn_eq n y (by omega), Option.bind_some, zo (by rw [List.length_append]; omega), cond_true, zg (by omega)]
  ·show qr_B2 n m.funcs (m.funcs.length : Int) (i : Int) co (co.length : Int) (co.length : Int) b = _
   unfold qr_B2
   rw [decide_eq_false (by omega), cond_false]
 ·show qr_B0 n m.funcs (m.funcs.length : Int) (m.funcs.length : Int) a = _
  unfold qr_B0
  rw [decide_eq_false (by omega), cond_false]; rfl
theorem zhX {recs : Int} {f : ImD} (h : fitI recs f = true) : f.1.length ≤ 4 ∧ (impV f).length ≤ 130 := by
 simp only [fitI, Bool.and_eq_true] at h
 have h1 := zaI h.1
 have := zad f.1
 have := zag (f.2.1, f.2.2)
 refine ⟨by omega, ?_⟩
 rw [impV, List.length_append]; omega
theorem zlW (n : Nat) (m : ModD) (ho : OkM m) (hf : fitsV m = true) (hn : 200 ≤ n) : qz n m.recs m.funcs m.imps m.ints m.texts = some (listV impV m.imps) ∧ (listV impV m.imps).length ≤ 2000 := by
 simp only [fitsV, Bool.and_eq_true, decide_eq_true_eq, List.all_eq_true] at hf
 obtain ⟨_, _, _, _, _, h1, h2, _⟩ := hf
 have hc : ∀ x ∈ m.imps, (impV x).length ≤ 130 := fun x hx => (zhX (h2 x hx)).2
 have hv := zn m.imps.length
 refine ⟨?_, by have := zy impV 130 m.imps hc; rw [listV, List.length_append]; omega⟩
 unfold qz
 rw [zb, zdw n _ (by omega) (by omega), Option.bind_some]
 have h := zT (B := fun s => qz_B0 n s.1.1 s.1.2.1 s.1.2.2 s.2) (xs := m.imps) (mk := fun i a => ((m.imps, ((m.imps.length : Int), (i : Int))), a)) (f := impV) (e := id) (c := 130) (m0 := varN m.imps.length) (cap := 40000)
  hc (by omega) (fun i a x hx hmem ha => ?_) (fun a => ?_) (n := n) (by omega)
 ·rw [show qz_W0 n ((m.imps, ((m.imps.length : Int), 0)), varN m.imps.length) = _ from h, Option.bind_some]
  rfl
 ·have hi := zk hx
  obtain ⟨l1, _⟩ := zhX (h2 x hmem)
  obtain ⟨o1, o2⟩ := ho.imps x hmem
  obtain ⟨ar, k, nn⟩ := x
  have t1 := zad ar
  have t3 := zag (k, nn)
  simp only at l1 o1 o2
  show qz_B0 n m.imps (m.imps.length : Int) (i : Int) a = _
  unfold qz_B0
  rw [decide_eq_true (by omega), cond_true, ze, hx, Option.bind_some]
  simp only []
  rw [zdx n ar a o1 (by omega) (by omega) hn, Option.bind_some, qcr_eq n (k, nn) o2 (by omega), Option.bind_some, zo (by simp only [List.length_append]; omega), cond_true, zg (by omega)]
  simp only [impV, List.append_assoc]
 ·show qz_B0 n m.imps (m.imps.length : Int) (m.imps.length : Int) a = _
  unfold qz_B0
  rw [decide_eq_false (by omega), cond_false]; rfl
theorem zoT (n : Nat) (v : Nat) (hv : v < 18446744073709551616) (hn : 20 ≤ n) : qck n (v : Int) 8 = some (fixN 8 v) := by
 have h := zT (B := fun s => qck_B0 n s.1.1 s.1.2.1 s.1.2.2 s.2) (xs := List.range 8) (mk := fun i a => (((v : Int), ((8 : Int), (i : Int))), a)) (f := fun j => [((v / 256 ^ j % 256 : Nat) : Int)]) (e := id) (c := 1) (m0 := []) (cap := 100)
  (fun x _ => by simp) (by simp) (fun i a x hx hmem ha => ?_) (fun a => ?_) (n := n) (by simp; omega)
 ·unfold qck
  rw [show qck_W0 n (((v : Int), ((minI (maxI 8 0) 8), 0)), []) = _ from h, Option.bind_some]
  have e : ∀ l : List Nat, l.flatMap (fun j => [((v / 256 ^ j % 256 : Nat) : Int)]) = l.map fun j => ((v / 256 ^ j % 256 : Nat) : Int) := by
   intro l
   induction l with
   | nil => rfl
   | cons x l ih => rw [List.flatMap_cons, ih]; rfl
  rw [e]; rfl
 ·have hi := zk hx
  rw [List.length_range] at hi
  rw [List.getElem?_range hi] at hx
  obtain rfl := Option.some.inj hx
  show qck_B0 n (v : Int) 8 (i : Int) a = _
  unfold qck_B0
  have hb : cvtI .u8 (shrI .u64 (v : Int) (mulI .i64 8 (i : Int))) = ((v / 256 ^ i % 256 : Nat) : Int) := by
   rw [zkP (by omega) (by omega), zgx]
   show ((v : Int).fdiv (2 ^ (min (8 * (i : Int)).toNat 64))) % 256 = _
   rw [show min (8 * (i : Int)).toNat 64 = 8 * i by omega, show ((2 : Int) ^ (8 * i)) = ((256 ^ i : Nat) : Int) by rw [show (256 : Nat) = 2 ^ 8 from rfl, ← Nat.pow_mul]; simp,
    Int.fdiv_eq_ediv_of_nonneg _ (Int.natCast_nonneg _), ← Int.natCast_ediv]
   omega
  rw [decide_eq_true (by omega), cond_true, hb, zkP (by omega) (by omega), decide_eq_true (by omega), cond_true, zo (by simp at ha ⊢; omega), cond_true, zg (by omega)]
 ·show qck_B0 n (v : Int) 8 8 a = _
  rfl
theorem zme (n : Nat) (m : ModD) (ho : OkM m) (hf : fitsV m = true) (hn : 200 ≤ n) : qab n m.recs m.funcs m.imps m.ints m.texts = some (listV (fun v => fixN 8 v.toNat) m.ints) ∧ (listV (fun v : Int => fixN 8 v.toNat) m.ints).length ≤ 2000 := by
 simp only [fitsV, Bool.and_eq_true, decide_eq_true_eq, List.all_eq_true] at hf
 obtain ⟨_, _, _, _, _, _, _, h1, _⟩ := hf
 have hc : ∀ x ∈ m.ints, (fixN 8 x.toNat).length ≤ 8 := fun x hx => by rw [zbE]; omega
 have hv := zn m.ints.length
 refine ⟨?_, by have := zy (fun v : Int => fixN 8 v.toNat) 8 m.ints hc; rw [listV, List.length_append]; omega⟩
 unfold qab
 rw [zb, zdw n _ (by omega) (by omega), Option.bind_some]
 have h := zT (B := fun s => qab_B0 n s.1.1 s.1.2.1 s.1.2.2 s.2) (xs := m.ints) (mk := fun i a => ((m.ints, ((m.ints.length : Int), (i : Int))), a)) (f := fun v => fixN 8 v.toNat) (e := id) (c := 8) (m0 := varN m.ints.length) (cap := 40000)
  hc (by omega) (fun i a x hx hmem ha => ?_) (fun a => ?_) (n := n) (by omega)
 ·rw [show qab_W0 n ((m.ints, ((m.ints.length : Int), 0)), varN m.ints.length) = _ from h, Option.bind_some]
  rfl
 ·have hi := zk hx
  have hxr := ho.ints x hmem
  obtain ⟨u, rfl⟩ : ∃ u : Nat, x = (u : Int) := ⟨x.toNat, by omega⟩
  show qab_B0 n m.ints (m.ints.length : Int) (i : Int) a = _
  unfold qab_B0
  rw [zbE] at ha
  rw [decide_eq_true (by omega), cond_true, ze, hx, Option.bind_some, zoT n u (by omega) (by omega), Option.bind_some, zo (by rw [List.length_append, zbE]; omega), cond_true, zg (by omega), Int.toNat_natCast]
 ·show qab_B0 n m.ints (m.ints.length : Int) (m.ints.length : Int) a = _
  unfold qab_B0
  rw [decide_eq_false (by omega), cond_false]; rfl
theorem zba (s : ByteArray) : (bytesInts s).length = s.size := by
 unfold bytesInts
 rw [List.length_map, Array.length_toList]; rfl
theorem zoa (n : Nat) (m : ModD) (hf : fitsV m = true) (hn : 200 ≤ n) : qaq n m.recs m.funcs m.imps m.ints m.texts = some (listV txtV m.texts) ∧ (listV txtV m.texts).length ≤ 2000 := by
 simp only [fitsV, Bool.and_eq_true, decide_eq_true_eq, List.all_eq_true] at hf
 obtain ⟨_, _, _, _, _, _, _, _, h1, h2⟩ := hf
 have hc : ∀ x ∈ m.texts, (txtV x).length ≤ 43 := fun x hx => by
  have := zn x.size
  have := h2 x hx
  rw [txtV, List.length_append, zba]; omega
 have hv := zn m.texts.length
 refine ⟨?_, by have := zy txtV 43 m.texts hc; rw [listV, List.length_append]; omega⟩
 unfold qaq
 rw [zb, zdw n _ (by omega) (by omega), Option.bind_some]
 have h := zT (B := fun s => qaq_B0 n s.1.1 s.1.2.1 s.1.2.2 s.2) (xs := m.texts) (mk := fun i a => ((m.texts, ((m.texts.length : Int), (i : Int))), a)) (f := txtV) (e := id) (c := 43) (m0 := varN m.texts.length) (cap := 40000)
  hc (by omega) (fun i a x hx hmem ha => ?_) (fun a => ?_) (n := n) (by omega)
 ·rw [show qaq_W0 n ((m.texts, ((m.texts.length : Int), 0)), varN m.texts.length) = _ from h, Option.bind_some]
  rfl
 ·have hi := zk hx
  have hs := h2 x hmem
  have hvx := zn x.size
  show qaq_B0 n m.texts (m.texts.length : Int) (i : Int) a = _
  unfold qaq_B0
  rw [decide_eq_true (by omega), cond_true, ze, hx, Option.bind_some, show lenS x = ((x.size : Nat) : Int) from rfl, zfM n _ a (by omega) (by omega) (by omega), Option.bind_some, zo (by simp only [List.length_append, zba]; omega), cond_true, zg (by omega), List.append_assoc]
  rfl
 ·show qaq_B0 n m.texts (m.texts.length : Int) (m.texts.length : Int) a = _
  unfold qaq_B0
  rw [decide_eq_false (by omega), cond_false]; rfl
theorem zoY (n : Nat) (l : List (List Int)) (hl : l.length ≤ 100) (hc : ∀ x ∈ l, x.length ≤ 1000000) (hn : 200 ≤ n) : qbx n l = some (joinV l) := by
 have hv := zn l.length
 have hc2 : ∀ x ∈ l, (varN x.length ++ x).length ≤ 1000011 := fun x hx => by
  have := zn x.length
  have := hc x hx
  rw [List.length_append]; omega
 unfold qbx
 rw [zb, zG (by omega) (by omega), qcs_eq n l.length (by omega) (by omega), Option.bind_some]
 have h := zT (B := fun s => qbx_B0 n s.1.1 s.1.2.1 s.1.2.2 s.2) (xs := l) (mk := fun i a => ((l, ((l.length : Int), (i : Int))), a)) (f := fun p => varN p.length ++ p) (e := id) (c := 1000011) (m0 := varN l.length) (cap := 200000000)
  hc2 (by omega) (fun i a x hx hmem ha => ?_) (fun a => ?_) (n := n) (by omega)
 ·rw [show qbx_W0 n ((l, ((l.length : Int), 0)), varN l.length) = _ from h, Option.bind_some]
  rfl
 ·have hi := zk hx
  have hvx := zn x.length
  have hxl := hc x hmem
  rw [List.length_append] at ha
  show qbx_B0 n l (l.length : Int) (i : Int) a = _
  unfold qbx_B0
  rw [decide_eq_true (by omega), cond_true, ze, hx, Option.bind_some, zb, zG (by omega) (by omega), qcs_eq n x.length (by omega) (by omega), Option.bind_some, zo (by rw [List.length_append]; omega), cond_true, zo (by simp only [List.length_append]; omega), cond_true, zg (by omega), List.append_assoc]
 ·show qbx_B0 n l (l.length : Int) (l.length : Int) a = _
  unfold qbx_B0
  rw [decide_eq_false (by omega), cond_false]; rfl
theorem znr (n : Nat) (m : ModD) (ho : OkM m) (hn : 200 ≤ n) : qaj n m.recs m.funcs m.imps m.ints m.texts = some (if fitsV m = true then (encV m, 0) else ([], 2)) := by
 unfold qaj
 rw [zoW n m (by omega), Option.bind_some]
 cases hf : fitsV m with
 | false => rfl
 | true =>
  obtain ⟨e1, l1⟩ := zmz n m ho hf hn
  obtain ⟨e2, l2⟩ := zjX n m ho hf hn
  obtain ⟨e3, l3⟩ := zlW n m ho hf hn
  obtain ⟨e4, l4⟩ := zme n m ho hf hn
  obtain ⟨e5, l5⟩ := zoa n m hf hn
  rw [Bool.not_true, cond_false, e1, Option.bind_some, e2, Option.bind_some, e3, Option.bind_some, e4, Option.bind_some, e5, Option.bind_some, zoY n _ (by simp) ?_ hn, Option.bind_some, if_pos rfl]
  ·rfl
  ·intro x hx
   simp only [List.mem_cons, List.not_mem_nil, or_false] at hx
   rcases hx with rfl | rfl | rfl | rfl | rfl <;> omega
end Sx
end
section
/- The bytes of a module, as the document has them. -/
set_option linter.unusedVariables false
set_option linter.unusedSimpArgs false
namespace Sx
open Go Go.Ab
def typesR (recs most : Int) (l : List TyD) : List Int × Bool := if l.all (goodV recs) = true then (typesV l, decide ((l.length : Int) ≤ most)) else ([], false)
theorem zcj (recs most : Int) (l : List TyD) : (typesR recs most l).2 = goodsV recs most l := by
 unfold typesR goodsV
 cases l.all (goodV recs) <;> simp
theorem zbm {recs most : Int} {l : List TyD} (h : goodsV recs most l = true) : (typesR recs most l).1 = typesV l := by
 simp only [goodsV, Bool.and_eq_true] at h
 unfold typesR
 rw [if_pos h.2]
theorem zcK (recs most : Int) (l : List TyD) : (typesR recs most l).1.length ≤ 11 + 22 * l.length := by
 unfold typesR
 split
 ·exact zad l
 ·simp
theorem zbG (n : Nat) (l : List TyD) (recs most : Int) (ho : okTs l) (hl : l.length ≤ 5000) (hn : 6000 ≤ n) : qai n l recs most = some (typesR recs most l) := by
 unfold qai
 have hv := zn l.length
 rw [zb, zG (by omega) (by omega), zQ n l.length (by omega) (by omega), Option.bind_some]
 have h := zao (B := fun s => qai_B0 n s.1.1 s.1.2.1 s.1.2.2.1 s.1.2.2.2 s.2) (xs := l) (mk := fun i a => ((l, (recs, (most, (i : Int)))), a))
  (I := fun i a => a = varN l.length ++ (l.take i).flatMap typV ∧ (l.take i).all (goodV recs) = true)
  (Q := fun y => (l.all (goodV recs) = true ∧ y = Sum.inr ((l, most), typesV l)) ∨ (l.all (goodV recs) = false ∧ ∃ m, y = Sum.inl (([], false), m)))
  (fun i a x hx hI => ?_) (fun a hI => ?_) l.length 0 n (varN l.length) (by omega) ⟨by simp, rfl⟩ (by omega)
 ·obtain ⟨y, h1, h2⟩ := h
  rw [show qai_W0 n ((l, (recs, (most, 0))), varN l.length) = some y from h1, Option.bind_some]
  unfold typesR
  rcases h2 with ⟨h3, rfl⟩ | ⟨h3, m, rfl⟩
  ·rw [if_pos h3]; rfl
  ·rw [if_neg (by rw [h3]; simp)]
 ·have hi := zk hx
  obtain ⟨rfl, hg⟩ := hI
  have hfl := zy typV 22 (l.take i) fun t _ => zag t
  have hxl := zag x
  have htl : (l.take i).length = i := by rw [List.length_take]; omega
  have hb : qai_B0 n l recs most (i : Int) (varN l.length ++ (l.take i).flatMap typV) = (if goodV recs x = true then some (Sum.inl ((l, (recs, (most, ((i + 1 : Nat) : Int)))), varN l.length ++ (l.take i).flatMap typV ++ typV x)) else some (Sum.inr (Sum.inl (([], false), varN l.length ++ (l.take i).flatMap typV)))) := by
   unfold qai_B0
   rw [zb, decide_eq_true (by omega), cond_true, ze, hx, Option.bind_some, zeg, Option.bind_some, Option.bind_some, zej n x (ho x (List.mem_of_getElem? hx)) (by omega), Option.bind_some, zo (by simp only [List.length_append]; omega), zg (by omega)]
   cases goodV recs x <;> rfl
  by_cases hgx : goodV recs x = true
  ·rw [if_pos hgx] at hb
   exact .inl ⟨_, hb, by rw [zJ hx, List.append_assoc], by rw [zaC hx, hg, hgx]; rfl⟩
  ·rw [if_neg hgx] at hb
   exact .inr ⟨_, hb, .inr ⟨zfc hx (by simpa using hgx), _, rfl⟩⟩
 ·obtain ⟨rfl, hg⟩ := hI
  rw [List.take_length] at hg ⊢
  refine ⟨Sum.inr ((l, most), typesV l), ?_, .inl ⟨hg, rfl⟩⟩
  show qai_B0 n l recs most (l.length : Int) _ = _
  unfold qai_B0
  rw [zb, decide_eq_false (by omega), cond_false]; rfl
structure LightM (m : ModD) : Prop where
 n1 : m.recs.length ≤ 200
 n2 : m.funcs.length ≤ 200
 n3 : m.imps.length ≤ 200
 n4 : m.ints.length ≤ 200
 n5 : m.texts.length ≤ 200
 recs : ∀ l ∈ m.recs, l.length ≤ 3000
 funcs : ∀ f ∈ m.funcs, f.1.length ≤ 3000 ∧ f.2.2.2.1.length ≤ 3000 ∧ f.2.2.2.2.length ≤ 3000
 imps : ∀ i ∈ m.imps, i.1.length ≤ 3000
 texts : ∀ s ∈ m.texts, s.size ≤ 3000
abbrev mtup (m : ModD) : List (List TyD) × List FnD × List ImD × List Int × List ByteArray := (m.recs, (m.funcs, (m.imps, (m.ints, m.texts))))
theorem refRecs (n : Nat) (m : ModD) (ho : OkM m) (hL : LightM m) (h8 : m.recs.length ≤ 8) (hn : 6000 ≤ n) : ∃ b, qao_W0 n (((m.recs.length : Int), (true, 0)), (mtup m, varN m.recs.length)) = some (((m.recs.length : Int), m.recs.all (goodsV m.recs.length 6)), (mtup m, b)) ∧
  (m.recs.all (goodsV m.recs.length 6) = true → b = listV typesV m.recs) := by
 have hv := zn m.recs.length
 have h := zao (B := fun s => qao_B0 n s.1.1 s.1.2.1 s.1.2.2 s.2.1.1 s.2.1.2.1 s.2.1.2.2.1 s.2.1.2.2.2.1 s.2.1.2.2.2.2 s.2.2) (xs := m.recs) (mk := fun i (a : Bool × List Int) => (((m.recs.length : Int), (a.1, (i : Int))), (mtup m, a.2)))
  (I := fun i a => a.1 = (m.recs.take i).all (goodsV m.recs.length 6) ∧ a.2.length ≤ 11 + 70000 * i ∧ (a.1 = true → a.2 = varN m.recs.length ++ (m.recs.take i).flatMap typesV))
  (Q := fun y => ∃ b, y = (((m.recs.length : Int), m.recs.all (goodsV m.recs.length 6)), (mtup m, b)) ∧ (m.recs.all (goodsV m.recs.length 6) = true → b = listV typesV m.recs))
  (fun i a x hx hI => ?_) (fun a hI => ?_) m.recs.length 0 n (true, varN m.recs.length) (by omega) ⟨rfl, by simp; omega, fun _ => by simp⟩ (by omega)
 ·obtain ⟨y, h1, b, rfl, h2⟩ := h
  exact ⟨b, h1, h2⟩
 ·have hi := zk hx
  have hm := List.mem_of_getElem? hx
  have hxl := hL.recs x hm
  have htl := zcK m.recs.length 6 x
  obtain ⟨h1, h2, h3⟩ := hI
  refine .inl ⟨(a.1 && (typesR m.recs.length 6 x).2, a.2 ++ (typesR m.recs.length 6 x).1), ?_, ?_, ?_, ?_⟩
  ·show qao_B0 n (m.recs.length : Int) a.1 (i : Int) m.recs m.funcs m.imps m.ints m.texts a.2 = _
   unfold qao_B0
   rw [decide_eq_true (by omega), cond_true, ze, hx, Option.bind_some, zbG n x _ _ (ho.recs x hm) (by omega) hn, Option.bind_some, zo (by rw [List.length_append]; omega), cond_true, zg (by omega)]
   cases a.1 <;> rfl
  ·rw [h1, zaC hx, zcj]
  ·simp only [List.length_append]; omega
  ·intro hb
   simp only [Bool.and_eq_true, zcj] at hb
   simp only []
   rw [h3 hb.1, zbm hb.2, zJ hx, List.append_assoc]
 ·obtain ⟨h1, h2, h3⟩ := hI
  rw [List.take_length] at h1 h3
  refine ⟨_, ?_, a.2, rfl, fun hb => h3 (h1.trans hb)⟩
  show qao_B0 n (m.recs.length : Int) a.1 (m.recs.length : Int) m.recs m.funcs m.imps m.ints m.texts a.2 = _
  unfold qao_B0
  rw [decide_eq_false (by omega), cond_false, h1]
theorem refCode (n : Nat) (m : ModD) (t4 : Int) (j : Int) (b1 b2 : List Int) (f : FnD) (hc : f.2.2.2.2.length ≤ 64) (hb2 : b2.length ≤ 4000000) (hn : 6000 ≤ n) :
  ∃ y, qao_W4 n ((t4, (true, (j, 0))), (mtup m, (b1, (b2, f)))) = some y ∧
   ((f.2.2.2.2.any badI = false ∧ y = Sum.inr ((t4, (true, j)), (mtup m, (b1, (b2 ++ f.2.2.2.2.flatMap putV, f))))) ∨ (f.2.2.2.2.any badI = true ∧ ∃ z, y = Sum.inl (([], false), z))) := by
 refine zao (B := fun s => qao_B4 n s.1.1 s.1.2.1 s.1.2.2.1 s.1.2.2.2 s.2.1.1 s.2.1.2.1 s.2.1.2.2.1 s.2.1.2.2.2.1 s.2.1.2.2.2.2 s.2.2.1 s.2.2.2.1 s.2.2.2.2.1 s.2.2.2.2.2.1 s.2.2.2.2.2.2.1 s.2.2.2.2.2.2.2.1 s.2.2.2.2.2.2.2.2) (xs := f.2.2.2.2)
  (mk := fun i (a : List Int) => ((t4, (true, (j, (i : Int)))), (mtup m, (b1, (a, f))))) (I := fun i a => a = b2 ++ (f.2.2.2.2.take i).flatMap putV ∧ (f.2.2.2.2.take i).any badI = false) (fun i a x hx hI => ?_) (fun a hI => ?_) f.2.2.2.2.length 0 n b2 (by omega) ⟨by simp, rfl⟩ (by omega)
 ·have hi := zk hx
  obtain ⟨rfl, hg⟩ := hI
  have hfl := zy putV 23 (f.2.2.2.2.take i) fun t _ => zdt t
  have hxl := zdt x
  have htl : (f.2.2.2.2.take i).length = i := by rw [List.length_take]; omega
  have hz : (((putV x).length : Int) == 0) = badI x := by
   rw [← zkA]
   cases (putV x).length <;> rfl
  have hb : qao_B4 n t4 true j (i : Int) m.recs m.funcs m.imps m.ints m.texts b1 (b2 ++ (f.2.2.2.2.take i).flatMap putV) f.1 f.2.1 f.2.2.1 f.2.2.2.1 f.2.2.2.2 =
    (if badI x = true then some (Sum.inr (Sum.inl (([], false), (mtup m, (b1, (b2 ++ (f.2.2.2.2.take i).flatMap putV, f)))))) else some (Sum.inl ((t4, (true, (j, ((i + 1 : Nat) : Int)))), (mtup m, (b1, (b2 ++ (f.2.2.2.2.take i).flatMap putV ++ putV x, f)))))) := by
   unfold qao_B4
   rw [zb, decide_eq_true (by omega), cond_true, ze, hx, Option.bind_some, zkw n x (by omega), Option.bind_some, zb, hz, zo (by simp only [List.length_append]; omega), zg (by omega)]
   cases badI x <;> rfl
  by_cases hgx : badI x = true
  ·rw [if_pos hgx] at hb
   exact .inr ⟨_, hb, .inr ⟨List.any_eq_true.2 ⟨x, List.mem_of_getElem? hx, hgx⟩, _, rfl⟩⟩
  ·rw [if_neg hgx] at hb
   refine .inl ⟨_, hb, by rw [zJ hx, List.append_assoc], ?_⟩
   rw [List.take_add_one, hx, List.any_append, hg]
   simpa using hgx
 ·obtain ⟨rfl, hg⟩ := hI
  rw [List.take_length] at hg ⊢
  refine ⟨_, ?_, .inl ⟨hg, rfl⟩⟩
  show qao_B4 n t4 true j (f.2.2.2.2.length : Int) m.recs m.funcs m.imps m.ints m.texts b1 (b2 ++ f.2.2.2.2.flatMap putV) f.1 f.2.1 f.2.2.1 f.2.2.2.1 f.2.2.2.2 = _
  unfold qao_B4
  rw [zb, decide_eq_false (by omega), cond_false]
theorem refFuncs (n : Nat) (m : ModD) (ho : OkM m) (hL : LightM m) (h1 : 1 ≤ m.funcs.length) (h8 : m.funcs.length ≤ 8) (ok : Bool) (b1 : List Int) (hn : 6000 ≤ n) :
  ∃ y, qao_W2 n (((m.recs.length : Int), (ok, 0)), (mtup m, (b1, varN m.funcs.length))) = some y ∧
   (((ok && m.funcs.all (fitF m.recs.length)) = true ∧ y = Sum.inr (((m.recs.length : Int), true), (mtup m, (b1, listV fncV m.funcs)))) ∨ ((ok && m.funcs.all (fitF m.recs.length)) = false ∧ ∃ z, y = Sum.inl (([], false), z))) := by
 have hv := zn m.funcs.length
 refine zao (B := fun s => qao_B2 n s.1.1 s.1.2.1 s.1.2.2 s.2.1.1 s.2.1.2.1 s.2.1.2.2.1 s.2.1.2.2.2.1 s.2.1.2.2.2.2 s.2.2.1 s.2.2.2) (xs := m.funcs) (mk := fun i (a : Bool × List Int) => (((m.recs.length : Int), (a.1, (i : Int))), (mtup m, (b1, a.2))))
  (I := fun i a => (i = 0 → a.1 = ok) ∧ (0 < i → a.1 = true ∧ ok = true) ∧ (m.funcs.take i).all (fitF m.recs.length) = true ∧ a.2 = varN m.funcs.length ++ (m.funcs.take i).flatMap fncV)
  (fun i a x hx hI => ?_) (fun a hI => ?_) m.funcs.length 0 n (ok, varN m.funcs.length) (by omega) ⟨fun _ => rfl, fun h => by omega, rfl, by simp⟩ (by omega)
 ·have hi := zk hx
  have hm := List.mem_of_getElem? hx
  obtain ⟨l1, l2, l3⟩ := hL.funcs x hm
  obtain ⟨o1, o2, o3⟩ := ho.funcs x hm
  obtain ⟨ia, ib, hg, hbytes⟩ := hI
  have htl : (m.funcs.take i).length = i := by rw [List.length_take]; omega
  have hfl := zy fncV 1900 (m.funcs.take i) fun t ht => (zcZ (List.all_eq_true.1 hg t ht)).2.2.2.2
  have hal : a.2.length ≤ 20000 := by rw [hbytes, List.length_append]; omega
  have hok : a.1 = ok := by
   rcases Nat.eq_zero_or_pos i with h | h
   ·exact ia h
   ·obtain ⟨e1, e2⟩ := ib h; rw [e1, e2]
  have exit : (a.1 && fitF m.recs.length x) = false → (ok && m.funcs.all (fitF m.recs.length)) = false := by
   intro h
   rw [hok] at h
   cases ok with
   | false => rfl
   | true =>
    have h : fitF m.recs.length x = false := h
    rw [Bool.true_and]; exact zfc hx h
  obtain ⟨ar, k, nn, lo, co⟩ := x
  simp only at l1 l2 l3 o1 o2 o3
  have t1 := zcK m.recs.length 4 ar
  have t2 := zcK m.recs.length (8 - (ar.length : Int)) lo
  have t3 := zag (k, nn)
  have t4 := zn co.length
  have hstep : ∀ s, qao_B2 n (m.recs.length : Int) a.1 (i : Int) m.recs m.funcs m.imps m.ints m.texts b1 a.2 = s → (fun s => qao_B2 n s.1.1 s.1.2.1 s.1.2.2 s.2.1.1 s.2.1.2.1 s.2.1.2.2.1 s.2.1.2.2.2.1 s.2.1.2.2.2.2 s.2.2.1 s.2.2.2) (((m.recs.length : Int), (a.1, (i : Int))), (mtup m, (b1, a.2))) = s := fun s h => h
  unfold qao_B2 at hstep
  rw [zb, decide_eq_true (by omega), cond_true, ze, hx, Option.bind_some] at hstep
  simp only [] at hstep
  rw [zbG n ar _ _ o1 (by omega) hn, Option.bind_some, zb, zA (by omega) (by omega), zbG n lo _ _ o3 (by omega) hn, Option.bind_some, zcj, zcj, zeg n (k, nn), Option.bind_some, zb] at hstep
  have hfit : fitF m.recs.length (ar, k, nn, lo, co) = (goodsV m.recs.length 4 ar && (goodV m.recs.length (k, nn) && (goodsV m.recs.length (8 - (ar.length : Int)) lo && (decide (1 ≤ co.length) && (decide (co.length ≤ 64) && !co.any badI))))) := rfl
  rw [hfit] at exit
  cases ha : a.1 with
  | false =>
   rw [ha] at hstep exit
   exact .inr ⟨_, hstep _ rfl, .inr ⟨exit rfl, _, rfl⟩⟩
  | true =>
   rw [ha] at hstep exit
   cases g1 : goodsV m.recs.length 4 ar with
   | false =>
    rw [g1] at hstep exit
    exact .inr ⟨_, hstep _ rfl, .inr ⟨exit rfl, _, rfl⟩⟩
   | true =>
    rw [g1] at hstep exit
    cases g2 : goodsV m.recs.length (8 - (ar.length : Int)) lo with
    | false =>
     rw [g2] at hstep exit
     exact .inr ⟨_, hstep _ rfl, .inr ⟨exit (by simp), _, rfl⟩⟩
    | true =>
     rw [g2] at hstep exit
     cases g3 : goodV m.recs.length (k, nn) with
     | false =>
      rw [g3] at hstep exit
      exact .inr ⟨_, hstep _ rfl, .inr ⟨exit (by simp), _, rfl⟩⟩
     | true =>
      rw [g3] at hstep exit
      by_cases c1 : 1 ≤ co.length
      ·rw [decide_eq_true (by omega : (co.length : Int) ≥ 1)] at hstep
       rw [decide_eq_true c1] at exit
       by_cases c2 : co.length ≤ 64
       ·rw [decide_eq_true (by omega : (co.length : Int) ≤ 64)] at hstep
        rw [decide_eq_true c2] at exit
        rw [zbm g1] at hstep t1
        rw [zbm g2] at hstep t2
        simp only [cond_true, Bool.not_true, cond_false] at hstep
        rw [zo (by simp only [List.length_append]; omega), cond_true, zej n (k, nn) o2 (by omega), Option.bind_some, zo (by simp only [List.length_append]; omega), cond_true, zo (by simp only [List.length_append]; omega), cond_true, zG (by omega) (by omega), zQ n co.length (by omega) (by omega),
         Option.bind_some, zo (by simp only [List.length_append]; omega), cond_true] at hstep
        obtain ⟨y, hy, hcase⟩ := refCode n m (m.recs.length : Int) (i : Int) b1 ((((a.2 ++ typesV ar) ++ typV (k, nn)) ++ typesV lo) ++ varN co.length) (ar, k, nn, lo, co) c2 (by simp only [List.length_append]; omega) hn
        rw [show qao_W4 n (((m.recs.length : Int), (true, ((i : Int), 0))), ((m.recs, (m.funcs, (m.imps, (m.ints, m.texts)))), (b1, (((((a.2 ++ typesV ar) ++ typV (k, nn)) ++ typesV lo) ++ varN co.length), (ar, (k, (nn, (lo, co)))))))) = some y from hy, Option.bind_some] at hstep
        rcases hcase with ⟨hbad, rfl⟩ | ⟨hbad, z, rfl⟩
        ·simp only [] at hstep
         rw [zg (by omega)] at hstep
         refine .inl ⟨(true, ((((a.2 ++ typesV ar) ++ typV (k, nn)) ++ typesV lo) ++ varN co.length) ++ co.flatMap putV), hstep _ rfl, fun h => by omega, fun _ => ⟨rfl, hok.symm.trans ha⟩, ?_, ?_⟩
         ·rw [zaC hx, hg, hfit, g1, g2, g3, decide_eq_true c1, decide_eq_true c2, hbad]; rfl
         ·rw [zJ hx, hbytes]
          simp only [fncV, List.append_assoc]
        ·exact .inr ⟨_, hstep _ rfl, .inr ⟨exit (by simp only [] at hbad; rw [hbad]; rfl), _, rfl⟩⟩
       ·rw [decide_eq_false (by omega : ¬ (co.length : Int) ≤ 64)] at hstep
        rw [decide_eq_false c2] at exit
        exact .inr ⟨_, hstep _ rfl, .inr ⟨exit (by simp), _, rfl⟩⟩
      ·rw [decide_eq_false (by omega : ¬ (co.length : Int) ≥ 1)] at hstep
       rw [decide_eq_false c1] at exit
       exact .inr ⟨_, hstep _ rfl, .inr ⟨exit (by simp), _, rfl⟩⟩
 ·obtain ⟨ia, ib, hg, hbytes⟩ := hI
  rw [List.take_length] at hg hbytes
  obtain ⟨ha, hok⟩ := ib (by omega)
  refine ⟨_, ?_, .inl ⟨by rw [hok, hg]; rfl, rfl⟩⟩
  show qao_B2 n (m.recs.length : Int) a.1 (m.funcs.length : Int) m.recs m.funcs m.imps m.ints m.texts b1 a.2 = _
  unfold qao_B2
  rw [zb, decide_eq_false (by omega), cond_false, ha, hbytes]
  rfl
end Sx
end
section
/- The rest of the document's bytes of a module; which modules are light. -/
set_option linter.unusedVariables false
set_option linter.unusedSimpArgs false
namespace Sx
open Go Go.Ab
theorem refImps (n : Nat) (m : ModD) (ho : OkM m) (hL : LightM m) (h8 : m.imps.length ≤ 8) (b1 b2 : List Int) (hn : 6000 ≤ n) :
  ∃ b, qao_W6 n (((m.recs.length : Int), (true, 0)), (mtup m, (b1, (b2, varN m.imps.length)))) = some (m.imps.all (fitI m.recs.length), (mtup m, (b1, (b2, b)))) ∧ b.length ≤ 2000000 ∧ (m.imps.all (fitI m.recs.length) = true → b = listV impV m.imps) := by
 have hv := zn m.imps.length
 have h := zao (B := fun s => qao_B6 n s.1.1 s.1.2.1 s.1.2.2 s.2.1.1 s.2.1.2.1 s.2.1.2.2.1 s.2.1.2.2.2.1 s.2.1.2.2.2.2 s.2.2.1 s.2.2.2.1 s.2.2.2.2) (xs := m.imps) (mk := fun i (a : Bool × List Int) => (((m.recs.length : Int), (a.1, (i : Int))), (mtup m, (b1, (b2, a.2)))))
  (I := fun i a => a.1 = (m.imps.take i).all (fitI m.recs.length) ∧ a.2.length ≤ 11 + 70000 * i ∧ (a.1 = true → a.2 = varN m.imps.length ++ (m.imps.take i).flatMap impV))
  (Q := fun y => ∃ b, y = (m.imps.all (fitI m.recs.length), (mtup m, (b1, (b2, b)))) ∧ b.length ≤ 2000000 ∧ (m.imps.all (fitI m.recs.length) = true → b = listV impV m.imps))
  (fun i a x hx hI => ?_) (fun a hI => ?_) m.imps.length 0 n (true, varN m.imps.length) (by omega) ⟨rfl, by simp; omega, fun _ => by simp⟩ (by omega)
 ·obtain ⟨y, h1, b, rfl, h2⟩ := h
  exact ⟨b, h1, h2⟩
 ·have hi := zk hx
  have hm := List.mem_of_getElem? hx
  have hxl := hL.imps x hm
  obtain ⟨o1, o2⟩ := ho.imps x hm
  obtain ⟨ar, k, nn⟩ := x
  simp only at hxl o1 o2
  have htl := zcK m.recs.length 4 ar
  have t3 := zag (k, nn)
  obtain ⟨h1, h2, h3⟩ := hI
  have hfit : fitI m.recs.length (ar, k, nn) = (goodsV m.recs.length 4 ar && goodV m.recs.length (k, nn)) := rfl
  refine .inl ⟨(a.1 && fitI m.recs.length (ar, k, nn), a.2 ++ (typesR m.recs.length 4 ar).1 ++ typV (k, nn)), ?_, ?_, ?_, ?_⟩
  ·show qao_B6 n (m.recs.length : Int) a.1 (i : Int) m.recs m.funcs m.imps m.ints m.texts b1 b2 a.2 = _
   unfold qao_B6
   rw [zb, decide_eq_true (by omega), cond_true, ze, hx, Option.bind_some]
   simp only [Option.bind_some]
   rw [zbG n ar _ _ o1 (by omega) hn, Option.bind_some, zcj, zeg n (k, nn), zej n (k, nn) o2 (by omega), hfit]
   simp only [Option.bind_some]
   rw [zo (by simp only [List.length_append]; omega), zo (by simp only [List.length_append]; omega), zg (by omega)]
   cases a.1 <;> cases goodsV m.recs.length 4 ar <;> rfl
  ·rw [h1, zaC hx]
  ·simp only [List.length_append]; omega
  ·intro hb
   simp only [Bool.and_eq_true, hfit] at hb
   simp only []
   rw [h3 hb.1, zbm hb.2.1, zJ hx]
   simp only [impV, List.append_assoc]
 ·obtain ⟨h1, h2, h3⟩ := hI
  rw [List.take_length] at h1 h3
  refine ⟨_, ?_, a.2, rfl, by omega, fun hb => h3 (h1.trans hb)⟩
  show qao_B6 n (m.recs.length : Int) a.1 (m.imps.length : Int) m.recs m.funcs m.imps m.ints m.texts b1 b2 a.2 = _
  unfold qao_B6
  rw [zb, decide_eq_false (by omega), cond_false, h1]
theorem quo256 {v : Nat} (hv : v < 18446744073709551616) : quoI .u64 (v : Int) 256 = ((v / 256 : Nat) : Int) := by
 show IntKind.u64.wrap ((v : Int).tdiv 256) = _
 rw [Int.tdiv_eq_ediv_of_nonneg (by omega), wrapU64]
 omega
theorem zki (n : Nat) (v : Nat) (hv : v < 18446744073709551616) (hn : 20 ≤ n) : qbb n (v : Int) 8 = some (fixN 8 v) := by
 have h := zao (B := fun s => qbb_B0 n s.1.1 s.1.2.1 s.1.2.2 s.2) (xs := List.range 8) (mk := fun i (a : List Int) => ((((v / 256 ^ i : Nat) : Int), ((8 : Int), (i : Int))), a)) (I := fun i a => a = (List.range i).map fun j => ((v / 256 ^ j % 256 : Nat) : Int)) (Q := fun y => y = fixN 8 v)
  (fun i a x hx hI => ?_) (fun a hI => ?_) 8 0 n [] (by simp) rfl (by omega)
 ·obtain ⟨y, h1, rfl⟩ := h
  unfold qbb
  rw [Nat.pow_zero, Nat.div_one] at h1
  rw [show qbb_W0 n (((v : Int), ((8 : Int), 0)), []) = _ from h1]
  rfl
 ·have hi := zk hx
  rw [List.length_range] at hi
  subst hI
  have hd : v / 256 ^ i < 18446744073709551616 := Nat.lt_of_le_of_lt (Nat.div_le_self _ _) hv
  have e1 : v / 256 ^ (i + 1) = v / 256 ^ i / 256 := by rw [Nat.pow_succ, Nat.div_div_eq_div_mul]
  have e2 : (List.range (i + 1)).map (fun j => ((v / 256 ^ j % 256 : Nat) : Int)) = (List.range i).map (fun j => ((v / 256 ^ j % 256 : Nat) : Int)) ++ [((v / 256 ^ i % 256 : Nat) : Int)] := by
   rw [List.range_succ, List.map_append]; rfl
  refine .inl ⟨_, ?_, rfl⟩
  rw [e1, e2]
  generalize v / 256 ^ i = q at hd
  show qbb_B0 n (q : Int) 8 (i : Int) ((List.range i).map fun j => ((v / 256 ^ j % 256 : Nat) : Int)) = _
  unfold qbb_B0
  rw [decide_eq_true (by omega), cond_true, cond_true, zde (by omega), zcC (by omega) (by omega), quo256 hd, zo (by simp; omega), cond_true, zg (by omega)]
  rfl
 ·subst hI
  refine ⟨_, ?_, rfl⟩
  rfl
theorem refInts (n : Nat) (m : ModD) (ho : OkM m) (h16 : m.ints.length ≤ 16) (ok : Bool) (b1 b2 b3 : List Int) (hn : 6000 ≤ n) :
  qao_W8 n ((ok, 0), (mtup m, (b1, (b2, (b3, varN m.ints.length))))) = some (ok, (mtup m, (b1, (b2, (b3, listV (fun v => fixN 8 v.toNat) m.ints))))) := by
 have hv := zn m.ints.length
 have h := zT (B := fun s => qao_B8 n s.1.1 s.1.2 s.2.1.1 s.2.1.2.1 s.2.1.2.2.1 s.2.1.2.2.2.1 s.2.1.2.2.2.2 s.2.2.1 s.2.2.2.1 s.2.2.2.2.1 s.2.2.2.2.2) (xs := m.ints) (mk := fun i a => ((ok, (i : Int)), (mtup m, (b1, (b2, (b3, a)))))) (f := fun v => fixN 8 v.toNat)
  (e := fun a => (ok, (mtup m, (b1, (b2, (b3, a)))))) (c := 8) (m0 := varN m.ints.length) (cap := 40000) (fun x hx => by rw [zbE]; omega) (by omega) (fun i a x hx hmem ha => ?_) (fun a => ?_) (n := n) (by omega)
 ·exact h
 ·have hi := zk hx
  have hxr := ho.ints x hmem
  obtain ⟨u, rfl⟩ : ∃ u : Nat, x = (u : Int) := ⟨x.toNat, by omega⟩
  show qao_B8 n ok (i : Int) m.recs m.funcs m.imps m.ints m.texts b1 b2 b3 a = _
  unfold qao_B8
  rw [zbE] at ha
  rw [zb, decide_eq_true (by omega), cond_true, ze, hx, Option.bind_some, zki n u (by omega) (by omega), Option.bind_some, zo (by rw [List.length_append, zbE]; omega), cond_true, zg (by omega), Int.toNat_natCast]
 ·show qao_B8 n ok (m.ints.length : Int) m.recs m.funcs m.imps m.ints m.texts b1 b2 b3 a = _
  unfold qao_B8
  rw [zb, decide_eq_false (by omega), cond_false]
theorem zlC {s : ByteArray} : (txtV s).length ≤ 11 + s.size := by
 have := zn s.size
 rw [txtV, List.length_append, zba]; omega
theorem refTexts (n : Nat) (m : ModD) (hL : LightM m) (h16 : m.texts.length ≤ 16) (ok : Bool) (b1 b2 b3 b4 : List Int) (hn : 6000 ≤ n) :
  qao_W10 n ((ok, 0), (mtup m, (b1, (b2, (b3, (b4, varN m.texts.length)))))) = some (ok && m.texts.all fun s => decide (s.size ≤ 32), (mtup m, (b1, (b2, (b3, (b4, listV txtV m.texts)))))) := by
 have hv := zn m.texts.length
 have h := zao (B := fun s => qao_B10 n s.1.1 s.1.2 s.2.1.1 s.2.1.2.1 s.2.1.2.2.1 s.2.1.2.2.2.1 s.2.1.2.2.2.2 s.2.2.1 s.2.2.2.1 s.2.2.2.2.1 s.2.2.2.2.2.1 s.2.2.2.2.2.2) (xs := m.texts) (mk := fun i (a : Bool × List Int) => ((a.1, (i : Int)), (mtup m, (b1, (b2, (b3, (b4, a.2)))))))
  (I := fun i a => a.1 = (ok && (m.texts.take i).all fun s => decide (s.size ≤ 32)) ∧ a.2.length ≤ 11 + 3011 * i ∧ a.2 = varN m.texts.length ++ (m.texts.take i).flatMap txtV)
  (Q := fun y => y = (ok && m.texts.all fun s => decide (s.size ≤ 32), (mtup m, (b1, (b2, (b3, (b4, listV txtV m.texts)))))))
  (fun i a x hx hI => ?_) (fun a hI => ?_) m.texts.length 0 n (ok, varN m.texts.length) (by omega) ⟨by simp, by simp; omega, by simp⟩ (by omega)
 ·obtain ⟨y, h1, rfl⟩ := h
  exact h1
 ·have hi := zk hx
  have hs := hL.texts x (List.mem_of_getElem? hx)
  have hvx := zn x.size
  obtain ⟨h1, h2, h3⟩ := hI
  have hd : decide (lenS x ≤ 32) = decide (x.size ≤ 32) := by
   unfold lenS
   by_cases h : x.size ≤ 32
   ·rw [decide_eq_true h, decide_eq_true (by omega)]
   ·rw [decide_eq_false h, decide_eq_false (by omega)]
  refine .inl ⟨(a.1 && decide (x.size ≤ 32), a.2 ++ txtV x), ?_, ?_, ?_, ?_⟩
  ·show qao_B10 n a.1 (i : Int) m.recs m.funcs m.imps m.ints m.texts b1 b2 b3 b4 a.2 = _
   unfold qao_B10
   rw [zb, decide_eq_true (by omega), cond_true, ze, hx]
   simp only [Option.bind_some]
   rw [show cvtI .u64 (lenS x) = ((x.size : Nat) : Int) from zG (a := ((x.size : Nat) : Int)) (by omega) (by omega), zQ n x.size (by omega) (by omega)]
   simp only [Option.bind_some]
   rw [zo (by rw [List.length_append]; omega), zo (by simp only [List.length_append, zba]; omega), zg (by omega), hd]
   cases a.1 <;> simp [txtV]
  ·simp only []
   rw [h1, zaC hx, Bool.and_assoc]
  ·have := zlC (s := x)
   simp only [List.length_append]; omega
  ·simp only []
   rw [h3, zJ hx, List.append_assoc]
 ·obtain ⟨h1, h2, h3⟩ := hI
  rw [List.take_length] at h1 h3
  refine ⟨_, ?_, rfl⟩
  show qao_B10 n a.1 (m.texts.length : Int) m.recs m.funcs m.imps m.ints m.texts b1 b2 b3 b4 a.2 = _
  unfold qao_B10
  rw [zb, decide_eq_false (by omega), cond_false, h1, h3]
  rfl
theorem zmx (n : Nat) (l : List (List Int)) (hl : l.length ≤ 100) (hc : ∀ x ∈ l, x.length ≤ 3000000) (hn : 200 ≤ n) : qbh n l = some (joinV l) := by
 have hv := zn l.length
 have hc2 : ∀ x ∈ l, (varN x.length ++ x).length ≤ 3000011 := fun x hx => by
  have := zn x.length
  have := hc x hx
  rw [List.length_append]; omega
 unfold qbh
 rw [zb, zG (by omega) (by omega), zQ n l.length (by omega) (by omega), Option.bind_some]
 have h := zT (B := fun s => qbh_B0 n s.1.1 s.1.2 s.2) (xs := l) (mk := fun i a => ((l, (i : Int)), a)) (f := fun p => varN p.length ++ p) (e := id) (c := 3000011) (m0 := varN l.length) (cap := 400000000)
  hc2 (by omega) (fun i a x hx hmem ha => ?_) (fun a => ?_) (n := n) (by omega)
 ·rw [show qbh_W0 n ((l, 0), varN l.length) = _ from h, Option.bind_some]
  rfl
 ·have hi := zk hx
  have hvx := zn x.length
  have hxl := hc x hmem
  rw [List.length_append] at ha
  show qbh_B0 n l (i : Int) a = _
  unfold qbh_B0
  rw [zb, decide_eq_true (by omega), cond_true, ze, hx]
  simp only [Option.bind_some]
  rw [zb, zG (by omega) (by omega), zQ n x.length (by omega) (by omega), Option.bind_some, zo (by rw [List.length_append]; omega), cond_true, zo (by simp only [List.length_append]; omega), cond_true, zg (by omega), List.append_assoc]
 ·show qbh_B0 n l (l.length : Int) a = _
  unfold qbh_B0
  rw [zb, decide_eq_false (by omega), cond_false]; rfl
theorem zjO (n : Nat) (m : ModD) (ho : OkM m) (hL : LightM m) (hn : 6000 ≤ n) : ∃ b, qao n m.recs m.funcs m.imps m.ints m.texts = some (b, fitsV m) ∧ (fitsV m = true → b = encV m) := by
 unfold qao
 rw [zb m.recs, zb m.funcs, zb m.imps, zb m.ints, zb m.texts]
 have no : fitsV m = false → ∃ b : List Int, some (([] : List Int), false) = some (b, fitsV m) ∧ (fitsV m = true → b = encV m) := fun h => ⟨[], by rw [h], fun h' => by rw [h] at h'; cases h'⟩
 by_cases h1 : m.recs.length ≤ 8
 case neg =>
  rw [decide_eq_true (by omega : (m.recs.length : Int) > 8), cond_true]
  exact no (by unfold fitsV; rw [decide_eq_false h1]; rfl)
 rw [decide_eq_false (by omega : ¬ (m.recs.length : Int) > 8), cond_false]
 by_cases h2 : 1 ≤ m.funcs.length
 case neg =>
  rw [decide_eq_true (by omega : (m.funcs.length : Int) < 1), cond_true]
  exact no (by unfold fitsV; rw [decide_eq_false h2]; simp)
 rw [decide_eq_false (by omega : ¬ (m.funcs.length : Int) < 1), cond_false]
 by_cases h3 : m.funcs.length ≤ 8
 case neg =>
  rw [decide_eq_true (by omega : (m.funcs.length : Int) > 8), cond_true]
  exact no (by unfold fitsV; rw [decide_eq_false h3]; simp)
 rw [decide_eq_false (by omega : ¬ (m.funcs.length : Int) > 8), cond_false]
 by_cases h4 : m.imps.length ≤ 8
 case neg =>
  rw [decide_eq_true (by omega : (m.imps.length : Int) > 8), cond_true]
  exact no (by unfold fitsV; rw [decide_eq_false h4]; simp)
 rw [decide_eq_false (by omega : ¬ (m.imps.length : Int) > 8), cond_false]
 by_cases h5 : m.ints.length ≤ 16
 case neg =>
  rw [decide_eq_true (by omega : (m.ints.length : Int) > 16), cond_true]
  exact no (by unfold fitsV; rw [decide_eq_false h5]; simp)
 rw [decide_eq_false (by omega : ¬ (m.ints.length : Int) > 16), cond_false]
 by_cases h6 : m.texts.length ≤ 16
 case neg =>
  rw [decide_eq_true (by omega : (m.texts.length : Int) > 16), cond_true]
  exact no (by unfold fitsV; rw [decide_eq_false h6]; simp)
 rw [decide_eq_false (by omega : ¬ (m.texts.length : Int) > 16), cond_false]
 have hfits : fitsV m = (m.recs.all (goodsV m.recs.length 6) && m.funcs.all (fitF m.recs.length) && (m.imps.all (fitI m.recs.length) && m.texts.all fun s => decide (s.size ≤ 32))) := by
  unfold fitsV
  rw [decide_eq_true h1, decide_eq_true h2, decide_eq_true h3, decide_eq_true h4, decide_eq_true h5, decide_eq_true h6]
  simp only [Bool.true_and, Bool.and_assoc]
 obtain ⟨b1, e1, p1⟩ := refRecs n m ho hL h1 hn
 obtain ⟨y, e2, p2⟩ := refFuncs n m ho hL h2 h3 (m.recs.all (goodsV m.recs.length 6)) b1 hn
 rw [zG (by omega) (by omega), zQ n m.recs.length (by omega) (by omega), Option.bind_some]
 rw [show qao_W0 n (((m.recs.length : Int), (true, 0)), ((m.recs, (m.funcs, (m.imps, (m.ints, m.texts)))), varN m.recs.length)) = _ from e1, Option.bind_some]
 simp only []
 rw [zb m.funcs, zG (by omega) (by omega), zQ n m.funcs.length (by omega) (by omega), Option.bind_some]
 rw [show qao_W2 n (((m.recs.length : Int), (m.recs.all (goodsV m.recs.length 6), 0)), ((m.recs, (m.funcs, (m.imps, (m.ints, m.texts)))), (b1, varN m.funcs.length))) = _ from e2, Option.bind_some]
 rcases p2 with ⟨hf, rfl⟩ | ⟨hf, z, rfl⟩
 ·have hf2 := hf
  rw [Bool.and_eq_true] at hf2
  obtain ⟨b3, e3, l3, p3⟩ := refImps n m ho hL h4 b1 (listV fncV m.funcs) hn
  simp only []
  rw [zb m.imps, zG (by omega) (by omega), zQ n m.imps.length (by omega) (by omega), Option.bind_some]
  rw [show qao_W6 n (((m.recs.length : Int), (true, 0)), ((m.recs, (m.funcs, (m.imps, (m.ints, m.texts)))), (b1, (listV fncV m.funcs, varN m.imps.length)))) = _ from e3, Option.bind_some]
  simp only []
  rw [zb m.ints, zG (by omega) (by omega), zQ n m.ints.length (by omega) (by omega), Option.bind_some]
  rw [show qao_W8 n ((m.imps.all (fitI m.recs.length), 0), ((m.recs, (m.funcs, (m.imps, (m.ints, m.texts)))), (b1, (listV fncV m.funcs, (b3, varN m.ints.length))))) = _ from refInts n m ho h5 _ b1 _ b3 hn, Option.bind_some]
  simp only []
  rw [zb m.texts, zG (by omega) (by omega), zQ n m.texts.length (by omega) (by omega), Option.bind_some]
  rw [show qao_W10 n ((m.imps.all (fitI m.recs.length), 0), ((m.recs, (m.funcs, (m.imps, (m.ints, m.texts)))), (b1, (listV fncV m.funcs, (b3, (listV (fun v => fixN 8 v.toNat) m.ints, varN m.texts.length)))))) = _ from refTexts n m hL h6 _ b1 _ b3 _ hn, Option.bind_some]
  simp only []
  have v1 := zn m.recs.length
  have v2 := zn m.funcs.length
  have v4 := zn m.ints.length
  have v5 := zn m.texts.length
  have c1 := zy typesV 143 m.recs fun x hx => by
   have := zad x
   have := zaI (List.all_eq_true.1 hf2.1 x hx)
   omega
  have c2 := zy fncV 1900 m.funcs fun x hx => (zcZ (List.all_eq_true.1 hf2.2 x hx)).2.2.2.2
  have c4 := zy (fun v : Int => fixN 8 v.toNat) 8 m.ints fun x hx => by rw [zbE]; omega
  have c5 := zy txtV 3011 m.texts fun x hx => by
   have := zlC (s := x)
   have := hL.texts x hx
   omega
  rw [zmx n [b1, listV fncV m.funcs, b3, listV (fun v => fixN 8 v.toNat) m.ints, listV txtV m.texts] (by simp) ?_ (by omega), Option.bind_some]
  ·refine ⟨_, by rw [hfits, hf2.1, hf2.2]; rfl, fun h => ?_⟩
   rw [hfits, Bool.and_eq_true, Bool.and_eq_true (m.imps.all _)] at h
   rw [p1 hf2.1, p3 h.2.1]
   rfl
  ·intro x hx
   simp only [List.mem_cons, List.not_mem_nil, or_false] at hx
   rcases hx with rfl | rfl | rfl | rfl | rfl
   ·rw [p1 hf2.1, listV, List.length_append]; omega
   ·rw [listV, List.length_append]; omega
   ·omega
   ·rw [listV, List.length_append]; omega
   ·rw [listV, List.length_append]; omega
 ·exact no (by rw [hfits, hf]; rfl)
end Sx
end
section
/- Which modules are light; which hang together. -/
set_option linter.unusedVariables false
set_option linter.unusedSimpArgs false
namespace Sx
open Go Go.Ab
structure LenM (m : ModD) : Prop where
 n1 : m.recs.length ≤ 140737488351232
 n2 : m.funcs.length ≤ 140737488351232
 n3 : m.imps.length ≤ 140737488351232
 n4 : m.ints.length ≤ 140737488351232
 n5 : m.texts.length ≤ 140737488351232
 recs : ∀ l ∈ m.recs, l.length ≤ 140737488351232
 funcs : ∀ f ∈ m.funcs, f.1.length ≤ 140737488351232 ∧ f.2.2.2.1.length ≤ 140737488351232 ∧ f.2.2.2.2.length ≤ 140737488351232
 imps : ∀ i ∈ m.imps, i.1.length ≤ 140737488351232
 texts : ∀ s ∈ m.texts, s.size ≤ 140737488351232
theorem zeH {S X A : Type} {B : S → Option (S ⊕ X)} {xs : List A} {mk : Nat → Int → S} {f : A → Nat} {e : Int → X} {c : Nat} {base : Int} (hb : 0 ≤ base) (hc : ∀ x ∈ xs, f x ≤ c) (hcap : base + (c : Int) * (xs.length : Int) ≤ 9000000000000000000)
  (hs : ∀ i a x, xs[i]? = some x → x ∈ xs → 0 ≤ a → a + (f x : Int) ≤ 9000000000000000000 → B (mk i a) = some (.inl (mk (i + 1) (a + (f x : Int))))) (he : ∀ a, B (mk xs.length a) = some (.inr (e a))) {n : Nat} (hn : xs.length < n) :
  ∃ a, loopS B n (mk 0 base) = some (e a) ∧ base ≤ a ∧ a ≤ base + (c : Int) * (xs.length : Int) ∧ ∀ x ∈ xs, (f x : Int) ≤ a := by
 have h := zao (B := B) (xs := xs) (mk := mk) (I := fun i a => base ≤ a ∧ a ≤ base + (c : Int) * (i : Int) ∧ ∀ x ∈ xs.take i, (f x : Int) ≤ a) (Q := fun y => ∃ a, y = e a ∧ base ≤ a ∧ a ≤ base + (c : Int) * (xs.length : Int) ∧ ∀ x ∈ xs, (f x : Int) ≤ a)
  (fun i a x hx hI => ?_) (fun a hI => ?_) xs.length 0 n base (by omega) ⟨Int.le_refl _, by simp, by simp⟩ hn
 ·obtain ⟨y, h1, a, rfl, h2⟩ := h
  exact ⟨a, h1, h2⟩
 ·have hi := zk hx
  have hm := List.mem_of_getElem? hx
  have hcx := hc x hm
  obtain ⟨h1, h2, h3⟩ := hI
  have hmul : (c : Int) * (i : Int) + (c : Int) ≤ (c : Int) * (xs.length : Int) := by
   have : (c * (i + 1) : Nat) ≤ c * xs.length := Nat.mul_le_mul_left c hi
   rw [Nat.mul_succ] at this
   have h := Int.ofNat_le.2 this
   simpa using h
  have hsucc : (c : Int) * ((i + 1 : Nat) : Int) = (c : Int) * (i : Int) + (c : Int) := by
   rw [Int.natCast_add, Int.mul_add]; simp
  refine .inl ⟨_, hs i a x hx hm (by omega) (by omega), by omega, by rw [hsucc]; omega, fun z hz => ?_⟩
  rw [List.take_add_one, hx, List.mem_append] at hz
  rcases hz with hz | hz
  ·have := h3 z hz; omega
  ·simp at hz; subst hz; omega
 ·obtain ⟨h1, h2, h3⟩ := hI
  rw [List.take_length] at h3
  exact ⟨_, he a, a, rfl, h1, h2, h3⟩
theorem zaA {a b : Int} (h1 : 0 ≤ a) (h2 : 0 ≤ b) (h3 : a + b ≤ 9000000000000000000) : addI .i64 a b = a + b := zaf (by omega) (by omega)
theorem zbT (n : Nat) (m : ModD) (hl : LenM m) (hn : 6000 ≤ n) : ∃ b, qaz n m.recs m.funcs m.imps m.ints m.texts = some b ∧ (b = true → LightM m) := by
 unfold qaz
 have n1 := hl.n1
 have n2 := hl.n2
 have n3 := hl.n3
 have n4 := hl.n4
 have n5 := hl.n5
 have hs : addI .i64 (addI .i64 (addI .i64 (addI .i64 (lenI m.recs) (lenI m.funcs)) (lenI m.imps)) (lenI m.ints)) (lenI m.texts) = ((m.recs.length + m.funcs.length + m.imps.length + m.ints.length + m.texts.length : Nat) : Int) := by
  simp only [zb]
  rw [zaA (b := ((m.funcs.length : Nat) : Int)) (by omega) (by omega) (by omega), zaA (b := ((m.imps.length : Nat) : Int)) (by omega) (by omega) (by omega), zaA (b := ((m.ints.length : Nat) : Int)) (by omega) (by omega) (by omega), zaA (b := ((m.texts.length : Nat) : Int)) (by omega) (by omega) (by omega)]
  omega
 rw [hs]
 by_cases h200 : m.recs.length + m.funcs.length + m.imps.length + m.ints.length + m.texts.length ≤ 200
 case neg =>
  rw [decide_eq_true (by omega), cond_true]
  exact ⟨false, rfl, fun h => by cases h⟩
 rw [decide_eq_false (by omega), cond_false]
 obtain ⟨a1, e1, l1, u1, p1⟩ := zeH (B := fun s => qaz_B0 n s.1.1 s.1.2 s.2.1 s.2.2.1 s.2.2.2.1 s.2.2.2.2.1 s.2.2.2.2.2) (xs := m.recs) (mk := fun i (a : Int) => ((a, (i : Int)), mtup m)) (f := List.length) (e := fun a => (a, mtup m)) (c := 140737488351232)
  (base := ((m.recs.length + m.funcs.length + m.imps.length + m.ints.length + m.texts.length : Nat) : Int)) (by omega) hl.recs (by omega) (fun i a x hx hm h0 hcap => by
   have hi := zk hx
   show qaz_B0 n a (i : Int) m.recs m.funcs m.imps m.ints m.texts = _
   unfold qaz_B0
   rw [zb, decide_eq_true (by omega), cond_true, ze, hx, Option.bind_some, zb, zaA h0 (by omega) hcap, zg (by omega)]) (fun a => by
   show qaz_B0 n a (m.recs.length : Int) m.recs m.funcs m.imps m.ints m.texts = _
   unfold qaz_B0
   rw [zb, decide_eq_false (by omega), cond_false]) (n := n) (by omega)
 rw [show qaz_W0 n ((((m.recs.length + m.funcs.length + m.imps.length + m.ints.length + m.texts.length : Nat) : Int), 0), (m.recs, (m.funcs, (m.imps, (m.ints, m.texts))))) = _ from e1, Option.bind_some]
 obtain ⟨a2, e2, l2, u2, p2⟩ := zeH (B := fun s => qaz_B2 n s.1.1 s.1.2 s.2.1 s.2.2.1 s.2.2.2.1 s.2.2.2.2.1 s.2.2.2.2.2) (xs := m.funcs) (mk := fun i (a : Int) => ((a, (i : Int)), mtup m)) (f := fun f => f.1.length + f.2.2.2.1.length + f.2.2.2.2.length) (e := fun a => (a, mtup m)) (c := 422212465053696)
  (base := a1) (by omega) (fun f hf => by obtain ⟨h1, h2, h3⟩ := hl.funcs f hf; omega) (by omega) (fun i a x hx hm h0 hcap => by
   have hi := zk hx
   show qaz_B2 n a (i : Int) m.recs m.funcs m.imps m.ints m.texts = _
   unfold qaz_B2
   rw [zb, decide_eq_true (by omega), cond_true, ze, hx]
   simp only [Option.bind_some, zb]
   rw [zaA (b := ((x.1.length : Nat) : Int)) h0 (by omega) (by omega), zaA (b := ((x.2.2.2.1.length : Nat) : Int)) (by omega) (by omega) (by omega), zaA (b := ((x.2.2.2.2.length : Nat) : Int)) (by omega) (by omega) (by omega), zg (by omega)]
   have : a + ((x.1.length : Nat) : Int) + ((x.2.2.2.1.length : Nat) : Int) + ((x.2.2.2.2.length : Nat) : Int) = a + ((x.1.length + x.2.2.2.1.length + x.2.2.2.2.length : Nat) : Int) := by omega
   rw [this]) (fun a => by
   show qaz_B2 n a (m.funcs.length : Int) m.recs m.funcs m.imps m.ints m.texts = _
   unfold qaz_B2
   rw [zb, decide_eq_false (by omega), cond_false]) (n := n) (by omega)
 rw [show qaz_W2 n ((a1, 0), (m.recs, (m.funcs, (m.imps, (m.ints, m.texts))))) = _ from e2, Option.bind_some]
 obtain ⟨a3, e3, l3, u3, p3⟩ := zeH (B := fun s => qaz_B4 n s.1.1 s.1.2 s.2.1 s.2.2.1 s.2.2.2.1 s.2.2.2.2.1 s.2.2.2.2.2) (xs := m.imps) (mk := fun i (a : Int) => ((a, (i : Int)), mtup m)) (f := fun f => f.1.length) (e := fun a => (a, mtup m)) (c := 140737488351232)
  (base := a2) (by omega) hl.imps (by omega) (fun i a x hx hm h0 hcap => by
   have hi := zk hx
   show qaz_B4 n a (i : Int) m.recs m.funcs m.imps m.ints m.texts = _
   unfold qaz_B4
   rw [zb, decide_eq_true (by omega), cond_true, ze, hx, Option.bind_some, zb, zaA h0 (by omega) hcap, zg (by omega)]) (fun a => by
   show qaz_B4 n a (m.imps.length : Int) m.recs m.funcs m.imps m.ints m.texts = _
   unfold qaz_B4
   rw [zb, decide_eq_false (by omega), cond_false]) (n := n) (by omega)
 rw [show qaz_W4 n ((a2, 0), (m.recs, (m.funcs, (m.imps, (m.ints, m.texts))))) = _ from e3, Option.bind_some]
 obtain ⟨a4, e4, l4, u4, p4⟩ := zeH (B := fun s => qaz_B6 n s.1.1 s.1.2 s.2.1 s.2.2.1 s.2.2.2.1 s.2.2.2.2.1 s.2.2.2.2.2) (xs := m.texts) (mk := fun i (a : Int) => ((a, (i : Int)), mtup m)) (f := ByteArray.size) (e := fun a => (a, mtup m)) (c := 140737488351232)
  (base := a3) (by omega) hl.texts (by omega) (fun i a x hx hm h0 hcap => by
   have hi := zk hx
   show qaz_B6 n a (i : Int) m.recs m.funcs m.imps m.ints m.texts = _
   unfold qaz_B6
   rw [zb, decide_eq_true (by omega), cond_true, ze, hx, Option.bind_some, show lenS x = ((x.size : Nat) : Int) from rfl, zaA h0 (by omega) hcap, zg (by omega)]) (fun a => by
   show qaz_B6 n a (m.texts.length : Int) m.recs m.funcs m.imps m.ints m.texts = _
   unfold qaz_B6
   rw [zb, decide_eq_false (by omega), cond_false]) (n := n) (by omega)
 rw [show qaz_W6 n ((a3, 0), (m.recs, (m.funcs, (m.imps, (m.ints, m.texts))))) = _ from e4, Option.bind_some]
 refine ⟨_, rfl, fun h => ?_⟩
 have h3000 := of_decide_eq_true h
 simp only at h3000
 refine ⟨by omega, by omega, by omega, by omega, by omega, fun x hx => ?_, fun x hx => ?_, fun x hx => ?_, fun x hx => ?_⟩
 ·have := p1 x hx; omega
 ·have := p2 x hx; omega
 ·have := p3 x hx; omega
 ·have := p4 x hx; omega
noncomputable def namedV (m : ModD) (f : FnD) (i : InD) : Bool := (qbg 0 m.recs m.funcs m.imps m.ints m.texts f.1 f.2.1 f.2.2.1 f.2.2.2.1 f.2.2.2.2 i.1 i.2.1 i.2.2).getD false
theorem zes {i : InD} (h : badI i = false) : 0 ≤ i.2.1 ∧ i.2.1 ≤ 255 ∧ 0 ≤ i.2.2 ∧ i.2.2 ≤ 255 := by
 have := of_decide_eq_false h
 omega
theorem zaR {β : Type} {c : Bool} {a b : Option β} (ha : ∃ x, a = some x) (hb : ∃ x, b = some x) : ∃ x, (bif c then a else b) = some x := by cases c; exact hb; exact ha
theorem zll (n : Nat) (m : ModD) (f : FnD) (i : InD) (hb : badI i = false) : qbg n m.recs m.funcs m.imps m.ints m.texts f.1 f.2.1 f.2.2.1 f.2.2.2.1 f.2.2.2.2 i.1 i.2.1 i.2.2 = some (namedV m f i) := by
 obtain ⟨h1, _, _, _⟩ := zes hb
 have key : ∃ b, qbg n m.recs m.funcs m.imps m.ints m.texts f.1 f.2.1 f.2.2.1 f.2.2.2.1 f.2.2.2.2 i.1 i.2.1 i.2.2 = some b := by
  have hg : (bif decide (i.2.1 < lenI m.recs) then (getI m.recs i.2.1).bind fun x => some (decide (i.2.2 < lenI x)) else some false) = some (bif decide (i.2.1 < lenI m.recs) then decide (i.2.2 < lenI ((getI m.recs i.2.1).getD [])) else false) := by
   cases hlt : decide (i.2.1 < lenI m.recs) with
   | false => rfl
   | true =>
    have hlt := of_decide_eq_true hlt
    rw [zb] at hlt
    obtain ⟨u, hu⟩ : ∃ u : Nat, i.2.1 = (u : Int) := ⟨i.2.1.toNat, by omega⟩
    rw [hu, ze, List.getElem?_eq_getElem (by omega)]
    rfl
  unfold qbg
  rw [hg]
  exact zaR ⟨_, rfl⟩ (zaR ⟨_, rfl⟩ (zaR ⟨_, rfl⟩ (zaR ⟨_, rfl⟩ (zaR ⟨_, rfl⟩ (zaR ⟨_, rfl⟩ (zaR ⟨_, rfl⟩ (zaR ⟨_, rfl⟩ (zaR ⟨_, rfl⟩ (zaR ⟨_, rfl⟩ (zaR ⟨_, rfl⟩ ⟨_, rfl⟩))))))))))
 obtain ⟨b, hb⟩ := key
 have : namedV m f i = b := by
  unfold namedV
  rw [show qbg 0 m.recs m.funcs m.imps m.ints m.texts f.1 f.2.1 f.2.2.1 f.2.2.2.1 f.2.2.2.2 i.1 i.2.1 i.2.2 = some b from hb]
  rfl
 rw [hb, this]
theorem qbu_eq (n : Nat) (m : ModD) (f : FnD) (i : InD) (hb : badI i = false) : qbu n m.recs m.funcs m.imps m.ints m.texts f.1 f.2.1 f.2.2.1 f.2.2.2.1 f.2.2.2.2 i.1 i.2.1 i.2.2 = some (namedV m f i) := by
 rw [← zll n m f i hb]
 rfl
def hostV (t : TyD) : Bool := t.1 == 1 || t.1 == 5
theorem zgQ (n : Nat) (t : TyD) : qcm n t.1 t.2 = some (hostV t) := by
 unfold qcm hostV
 cases t.1 == 1 <;> rfl
noncomputable def badF (m : ModD) (f : FnD) : Bool := f.2.2.2.2.any (fun i => !namedV m f i) || f.2.2.2.1.any (fun t => t.1 == 5)
def badH (i : ImD) : Bool := !hostV (i.2.1, i.2.2) || i.1.any fun t => !hostV t
noncomputable def checkV (m : ModD) : Int := if fitsV m = false then 2 else if m.funcs.any (badF m) = true then 1 else if m.imps.any badH = true then 1 else 0
theorem findNamed (n : Nat) (m : ModD) (f : FnD) (hb : ∀ i ∈ f.2.2.2.2, badI i = false) (hl : f.2.2.2.2.length ≤ 64) (hn : 100 ≤ n) :
  qb n f.2.2.2.2 m.recs m.funcs m.imps m.ints m.texts f.1 f.2.1 f.2.2.1 f.2.2.2.1 f.2.2.2.2 = some (f.2.2.2.2.any (fun i => !namedV m f i), (mtup m, f)) := by
 unfold qb qn
 have h := zr (B := fun s => qn_B0 n s.1.1 s.1.2.1 s.1.2.2 s.2.1.1 s.2.1.2.1 s.2.1.2.2.1 s.2.1.2.2.2.1 s.2.1.2.2.2.2 s.2.2.1 s.2.2.2.1 s.2.2.2.2.1 s.2.2.2.2.2.1 s.2.2.2.2.2.2) (xs := f.2.2.2.2) (mk := fun i => ((f.2.2.2.2, (lenI f.2.2.2.2, (i : Int))), (mtup m, f)))
  (p := fun i => !namedV m f i) (found := fun i x => Sum.inl ((i : Int), (mtup m, f))) (e := Sum.inr (mtup m, f)) (fun i x hx => ?_) ?_ f.2.2.2.2.length 0 n (by omega) (by omega)
 ·rw [List.drop_zero] at h
  rcases h with ⟨h1, k, x, _, _, h2⟩ | ⟨h1, h2⟩
  ·rw [show qn_W0 n ((f.2.2.2.2, (lenI f.2.2.2.2, 0)), ((m.recs, (m.funcs, (m.imps, (m.ints, m.texts)))), (f.1, (f.2.1, (f.2.2.1, (f.2.2.2.1, f.2.2.2.2)))))) = _ from h2, h1]
   show some (decide ((k : Int) ≥ 0), _) = _
   rw [decide_eq_true (by omega)]
  ·rw [show qn_W0 n ((f.2.2.2.2, (lenI f.2.2.2.2, 0)), ((m.recs, (m.funcs, (m.imps, (m.ints, m.texts)))), (f.1, (f.2.1, (f.2.2.1, (f.2.2.2.1, f.2.2.2.2)))))) = _ from h2, h1]
   rfl
 ·have hi := zk hx
  show qn_B0 n f.2.2.2.2 (lenI f.2.2.2.2) (i : Int) m.recs m.funcs m.imps m.ints m.texts f.1 f.2.1 f.2.2.1 f.2.2.2.1 f.2.2.2.2 = _
  unfold qn_B0 qax
  rw [zb, decide_eq_true (by omega), cond_true, ze, hx, Option.bind_some, qbu_eq n m f x (hb x (List.mem_of_getElem? hx)), Option.bind_some, Option.bind_some, zg (by omega)]
  cases namedV m f x <;> rfl
 ·show qn_B0 n f.2.2.2.2 (lenI f.2.2.2.2) (f.2.2.2.2.length : Int) m.recs m.funcs m.imps m.ints m.texts f.1 f.2.1 f.2.2.1 f.2.2.2.1 f.2.2.2.2 = _
  unfold qn_B0
  rw [zb, decide_eq_false (by omega), cond_false]
theorem findHan (n : Nat) (l : List TyD) (hl : l.length ≤ 64) (hn : 100 ≤ n) : qd n l = some (l.any fun t => t.1 == 5) := by
 unfold qd qv
 have h := zr (B := fun s => qv_B0 n s.1 s.2.1 s.2.2) (xs := l) (mk := fun i => (l, (lenI l, (i : Int)))) (p := fun t => t.1 == 5) (found := fun i x => Sum.inl (i : Int)) (e := Sum.inr ())
  (fun i x hx => ?_) ?_ l.length 0 n (by omega) (by omega)
 ·rw [List.drop_zero] at h
  rcases h with ⟨h1, k, x, _, _, h2⟩ | ⟨h1, h2⟩
  ·rw [show qv_W0 n (l, (lenI l, 0)) = some (Sum.inl (k : Int)) from h2, h1]
   show some (decide ((k : Int) ≥ 0)) = _
   rw [decide_eq_true (by omega)]
  ·rw [show qv_W0 n (l, (lenI l, 0)) = some (Sum.inr ()) from h2, h1]
   rfl
 ·have hi := zk hx
  show qv_B0 n l (lenI l) (i : Int) = _
  unfold qv_B0 qaw
  rw [zb, decide_eq_true (by omega), cond_true, ze, hx, Option.bind_some, Option.bind_some, zg (by omega)]
  cases x.1 == 5 <;> rfl
 ·show qv_B0 n l (lenI l) (l.length : Int) = _
  unfold qv_B0
  rw [zb, decide_eq_false (by omega), cond_false]
theorem findNoHost (n : Nat) (l : List TyD) (hl : l.length ≤ 64) (hn : 100 ≤ n) : qf n l = some (l.any fun t => !hostV t) := by
 unfold qf qs
 have h := zr (B := fun s => qs_B0 n s.1 s.2.1 s.2.2) (xs := l) (mk := fun i => (l, (lenI l, (i : Int)))) (p := fun t => !hostV t) (found := fun i x => Sum.inl (i : Int)) (e := Sum.inr ())
  (fun i x hx => ?_) ?_ l.length 0 n (by omega) (by omega)
 ·rw [List.drop_zero] at h
  rcases h with ⟨h1, k, x, _, _, h2⟩ | ⟨h1, h2⟩
  ·rw [show qs_W0 n (l, (lenI l, 0)) = some (Sum.inl (k : Int)) from h2, h1]
   show some (decide ((k : Int) ≥ 0)) = _
   rw [decide_eq_true (by omega)]
  ·rw [show qs_W0 n (l, (lenI l, 0)) = some (Sum.inr ()) from h2, h1]
   rfl
 ·have hi := zk hx
  show qs_B0 n l (lenI l) (i : Int) = _
  unfold qs_B0 qap
  rw [zb, decide_eq_true (by omega), cond_true, ze, hx, Option.bind_some, zgQ n x, Option.bind_some, Option.bind_some, zg (by omega)]
  cases hostV x <;> rfl
 ·show qs_B0 n l (lenI l) (l.length : Int) = _
  unfold qs_B0
  rw [zb, decide_eq_false (by omega), cond_false]
theorem zpb (n : Nat) (i : ImD) (hl : i.1.length ≤ 64) (hn : 100 ≤ n) : qbd n i.1 i.2.1 i.2.2 = some (badH i) := by
 unfold qbd badH
 rw [zgQ n (i.2.1, i.2.2), Option.bind_some]
 cases hostV (i.2.1, i.2.2) with
 | false => rfl
 | true => rw [Bool.not_true, cond_false, findNoHost n i.1 hl hn]; rfl
theorem findBadH (n : Nat) (l : List ImD) (hb : ∀ i ∈ l, i.1.length ≤ 64) (hl : l.length ≤ 64) (hn : 100 ≤ n) : qa n l = some (l.any badH) := by
 unfold qa qj
 have h := zr (B := fun s => qj_B0 n s.1 s.2.1 s.2.2) (xs := l) (mk := fun i => (l, (lenI l, (i : Int)))) (p := badH) (found := fun i x => Sum.inl (i : Int)) (e := Sum.inr ())
  (fun i x hx => ?_) ?_ l.length 0 n (by omega) (by omega)
 ·rw [List.drop_zero] at h
  rcases h with ⟨h1, k, x, _, _, h2⟩ | ⟨h1, h2⟩
  ·rw [show qj_W0 n (l, (lenI l, 0)) = some (Sum.inl (k : Int)) from h2, h1]
   show some (decide ((k : Int) ≥ 0)) = _
   rw [decide_eq_true (by omega)]
  ·rw [show qj_W0 n (l, (lenI l, 0)) = some (Sum.inr ()) from h2, h1]
   rfl
 ·have hi := zk hx
  show qj_B0 n l (lenI l) (i : Int) = _
  unfold qj_B0
  rw [zb, decide_eq_true (by omega), cond_true, ze, hx, Option.bind_some, zpb n x (hb x (List.mem_of_getElem? hx)) hn, Option.bind_some, zg (by omega)]
  cases badH x <;> rfl
 ·show qj_B0 n l (lenI l) (l.length : Int) = _
  unfold qj_B0
  rw [zb, decide_eq_false (by omega), cond_false]
theorem zaq {m : ModD} (h : fitsV m = true) : m.funcs.length ≤ 8 ∧ m.imps.length ≤ 8 ∧ 1 ≤ m.funcs.length ∧ (∀ f ∈ m.funcs, (∀ i ∈ f.2.2.2.2, badI i = false) ∧ f.2.2.2.2.length ≤ 64 ∧ f.2.2.2.1.length ≤ 64 ∧ 1 ≤ f.2.2.2.2.length ∧ f.1.length ≤ 4) ∧ ∀ i ∈ m.imps, i.1.length ≤ 64 := by
 simp only [fitsV, Bool.and_eq_true, decide_eq_true_eq, List.all_eq_true] at h
 obtain ⟨_, _, h0, h1, h2, h3, h4, _⟩ := h
 refine ⟨h1, h3, h0, fun f hf => ?_, fun i hi => ?_⟩
 ·have hl := zcZ (h2 f hf)
  have h5 := h2 f hf
  simp only [fitF, Bool.and_eq_true, Bool.not_eq_true', List.any_eq_false] at h5
  exact ⟨fun i hi => by simpa using h5.2.2.2.2.2 i hi, hl.2.2.2.1, by omega, hl.2.2.1, hl.1⟩
 ·have := (zhX (h4 i hi)).1; omega
theorem zix (n : Nat) (m : ModD) (ho : OkM m) (hn : 200 ≤ n) : qbv n m.recs m.funcs m.imps m.ints m.texts = some (checkV m) := by
 unfold qbv checkV
 rw [znr n m ho hn, Option.bind_some]
 cases hf : fitsV m with
 | false => rfl
 | true =>
  obtain ⟨k1, k2, k3, k4, k5⟩ := zaq hf
  rw [if_pos rfl]
  show ((qbv_W0 n ((m.funcs, (lenI m.funcs, 0)), mtup m)).bind _) = _
  have h := zao (B := fun s => qbv_B0 n s.1.1 s.1.2.1 s.1.2.2 s.2.1 s.2.2.1 s.2.2.2.1 s.2.2.2.2.1 s.2.2.2.2.2) (xs := m.funcs) (mk := fun i (a : Unit) => ((m.funcs, (lenI m.funcs, (i : Int))), mtup m)) (I := fun i a => (m.funcs.take i).any (badF m) = false)
   (Q := fun y => (m.funcs.any (badF m) = true ∧ ∃ z, y = Sum.inl (1, z)) ∨ (m.funcs.any (badF m) = false ∧ y = Sum.inr (mtup m))) (fun i a x hx hI => ?_) (fun a hI => ?_) m.funcs.length 0 n () (by omega) rfl (by omega)
  ·obtain ⟨y, h1, h2⟩ := h
   rw [show qbv_W0 n ((m.funcs, (lenI m.funcs, 0)), mtup m) = some y from h1, Option.bind_some]
   rcases h2 with ⟨h3, z, rfl⟩ | ⟨h3, rfl⟩
   ·rw [h3]; rfl
   ·rw [h3]
    show ((qa n m.imps).bind _) = _
    rw [findBadH n m.imps k5 (by omega) (by omega), Option.bind_some]
    cases m.imps.any badH <;> rfl
  ·have hi := zk hx
   have hm := List.mem_of_getElem? hx
   obtain ⟨q1, q2, q3, _⟩ := k4 x hm
   have hb : qbv_B0 n m.funcs (lenI m.funcs) (i : Int) m.recs m.funcs m.imps m.ints m.texts = (if badF m x = true then some (Sum.inr (Sum.inl (1, (mtup m, x)))) else some (Sum.inl ((m.funcs, (lenI m.funcs, ((i + 1 : Nat) : Int))), mtup m))) := by
    unfold qbv_B0 badF
    rw [zb, decide_eq_true (by omega), cond_true, ze, hx, Option.bind_some, findNamed n m x q1 q2 (by omega), Option.bind_some]
    cases x.2.2.2.2.any fun i => !namedV m x i with
    | true => rfl
    | false =>
     show ((qd n x.2.2.2.1).bind _) = _
     rw [findHan n x.2.2.2.1 q3 (by omega), Option.bind_some, zg (by omega)]
     cases x.2.2.2.1.any fun t => t.1 == 5 <;> rfl
   by_cases hbx : badF m x = true
   ·rw [if_pos hbx] at hb
    exact .inr ⟨_, hb, .inl ⟨List.any_eq_true.2 ⟨x, hm, hbx⟩, _, rfl⟩⟩
   ·rw [if_neg hbx] at hb
    refine .inl ⟨(), hb, ?_⟩
    rw [List.take_add_one, hx, List.any_append, hI]
    simpa using hbx
  ·rw [List.take_length] at hI
   refine ⟨_, ?_, .inr ⟨hI, rfl⟩⟩
   show qbv_B0 n m.funcs (lenI m.funcs) (m.funcs.length : Int) m.recs m.funcs m.imps m.ints m.texts = _
   unfold qbv_B0
   rw [zb, decide_eq_false (by omega), cond_false]
end Sx
end
section
/- Which modules hang together, as the document has it; the statements on any module. -/
set_option linter.unusedVariables false
set_option linter.unusedSimpArgs false
namespace Sx
open Go Go.Ab
theorem refCheckCode (n : Nat) (m : ModD) (f : FnD) (t5 : Int) (hb : ∀ i ∈ f.2.2.2.2, badI i = false) (hl : f.2.2.2.2.length ≤ 64) (hn : 100 ≤ n) :
  ∃ y, qba_W2 n ((t5, 0), (mtup m, f)) = some y ∧ ((f.2.2.2.2.any (fun i => !namedV m f i) = true ∧ y = Sum.inl (1, (mtup m, f))) ∨ (f.2.2.2.2.any (fun i => !namedV m f i) = false ∧ y = Sum.inr (t5, (mtup m, f)))) := by
 have h := zr (B := fun s => qba_B2 n s.1.1 s.1.2 s.2.1.1 s.2.1.2.1 s.2.1.2.2.1 s.2.1.2.2.2.1 s.2.1.2.2.2.2 s.2.2.1 s.2.2.2.1 s.2.2.2.2.1 s.2.2.2.2.2.1 s.2.2.2.2.2.2) (xs := f.2.2.2.2) (mk := fun i => ((t5, (i : Int)), (mtup m, f)))
  (p := fun i => !namedV m f i) (found := fun i x => Sum.inl (1, (mtup m, f))) (e := Sum.inr (t5, (mtup m, f))) (fun i x hx => ?_) ?_ f.2.2.2.2.length 0 n (by omega) (by omega)
 ·rw [List.drop_zero] at h
  rcases h with ⟨h1, k, x, _, _, h2⟩ | ⟨h1, h2⟩
  ·exact ⟨_, h2, .inl ⟨h1, rfl⟩⟩
  ·exact ⟨_, h2, .inr ⟨h1, rfl⟩⟩
 ·have hi := zk hx
  show qba_B2 n t5 (i : Int) m.recs m.funcs m.imps m.ints m.texts f.1 f.2.1 f.2.2.1 f.2.2.2.1 f.2.2.2.2 = _
  unfold qba_B2
  rw [zb, decide_eq_true (by omega), cond_true, ze, hx, Option.bind_some, zll n m f x (hb x (List.mem_of_getElem? hx)), Option.bind_some, zg (by omega)]
  cases namedV m f x <;> rfl
 ·show qba_B2 n t5 (f.2.2.2.2.length : Int) m.recs m.funcs m.imps m.ints m.texts f.1 f.2.1 f.2.2.1 f.2.2.2.1 f.2.2.2.2 = _
  unfold qba_B2
  rw [zb, decide_eq_false (by omega), cond_false]
theorem refCheckLocals (n : Nat) (m : ModD) (f : FnD) (t5 : Int) (hl : f.2.2.2.1.length ≤ 64) (hn : 100 ≤ n) :
  ∃ y, qba_W4 n ((t5, 0), (mtup m, f)) = some y ∧ ((f.2.2.2.1.any (fun t => t.1 == 5) = true ∧ y = Sum.inl (1, (mtup m, f))) ∨ (f.2.2.2.1.any (fun t => t.1 == 5) = false ∧ y = Sum.inr (t5, (mtup m, f)))) := by
 have h := zr (B := fun s => qba_B4 n s.1.1 s.1.2 s.2.1.1 s.2.1.2.1 s.2.1.2.2.1 s.2.1.2.2.2.1 s.2.1.2.2.2.2 s.2.2.1 s.2.2.2.1 s.2.2.2.2.1 s.2.2.2.2.2.1 s.2.2.2.2.2.2) (xs := f.2.2.2.1) (mk := fun i => ((t5, (i : Int)), (mtup m, f)))
  (p := fun t => t.1 == 5) (found := fun i x => Sum.inl (1, (mtup m, f))) (e := Sum.inr (t5, (mtup m, f))) (fun i x hx => ?_) ?_ f.2.2.2.1.length 0 n (by omega) (by omega)
 ·rw [List.drop_zero] at h
  rcases h with ⟨h1, k, x, _, _, h2⟩ | ⟨h1, h2⟩
  ·exact ⟨_, h2, .inl ⟨h1, rfl⟩⟩
  ·exact ⟨_, h2, .inr ⟨h1, rfl⟩⟩
 ·have hi := zk hx
  show qba_B4 n t5 (i : Int) m.recs m.funcs m.imps m.ints m.texts f.1 f.2.1 f.2.2.1 f.2.2.2.1 f.2.2.2.2 = _
  unfold qba_B4
  rw [zb, decide_eq_true (by omega), cond_true, ze, hx, Option.bind_some, zg (by omega)]
  cases x.1 == 5 <;> rfl
 ·show qba_B4 n t5 (f.2.2.2.1.length : Int) m.recs m.funcs m.imps m.ints m.texts f.1 f.2.1 f.2.2.1 f.2.2.2.1 f.2.2.2.2 = _
  unfold qba_B4
  rw [zb, decide_eq_false (by omega), cond_false]
theorem refCheckHost (n : Nat) (m : ModD) (k : Nat) (i : ImD) (hk : m.imps[k]? = some i) (ok : Bool) (hl : i.1.length ≤ 64) (hn : 100 ≤ n) :
  qba_W8 n (((k : Int), (ok, 0)), mtup m) = some (((k : Int), ok && i.1.all hostV), mtup m) := by
 have h := zfP (B := fun s => qba_B8 n s.1.1 s.1.2.1 s.1.2.2 s.2.1 s.2.2.1 s.2.2.2.1 s.2.2.2.2.1 s.2.2.2.2.2) (xs := i.1) (mk := fun j (a : Bool) => (((k : Int), (a, (j : Int))), mtup m)) (f := fun a t => a && hostV t) (e := fun a => (((k : Int), a), mtup m)) (I := fun _ _ => True)
  (fun j a x hx _ => ⟨?_, trivial⟩) (fun a _ => ?_) i.1.length 0 n ok (by omega) trivial (by omega)
 ·rw [List.drop_zero] at h
  have e : ∀ (l : List TyD) (b : Bool), l.foldl (fun a t => a && hostV t) b = (b && l.all hostV) := by
   intro l
   induction l with
   | nil => intro b; simp
   | cons x l ih => intro b; rw [List.foldl_cons, ih, List.all_cons, Bool.and_assoc]
  rw [e] at h
  exact h.1
 ·have hj := zk hx
  show qba_B8 n (k : Int) a (j : Int) m.recs m.funcs m.imps m.ints m.texts = _
  unfold qba_B8
  rw [ze, hk, Option.bind_some, zb, decide_eq_true (by omega), cond_true, Option.bind_some, ze, hx, Option.bind_some, zg (by omega)]
  cases a with
  | false => rfl
  | true =>
   show ((qbi n x.1 x.2).bind _) = _
   rw [show qbi n x.1 x.2 = some (hostV x) from zgQ n x]
   rfl
 ·show qba_B8 n (k : Int) a (i.1.length : Int) m.recs m.funcs m.imps m.ints m.texts = _
  unfold qba_B8
  rw [ze, hk, Option.bind_some, zb, decide_eq_false (by omega), cond_false]
theorem zfY (n : Nat) (m : ModD) (ho : OkM m) (hL : LightM m) (hn : 6000 ≤ n) : qba n m.recs m.funcs m.imps m.ints m.texts = some (checkV m) := by
 unfold qba checkV
 obtain ⟨b, e1, _⟩ := zjO n m ho hL hn
 rw [e1, Option.bind_some]
 cases hf : fitsV m with
 | false => rfl
 | true =>
  obtain ⟨k1, k2, k3, k4, k5⟩ := zaq hf
  show ((qba_W0 n (0, mtup m)).bind _) = _
  have h := zao (B := fun s => qba_B0 n s.1 s.2.1 s.2.2.1 s.2.2.2.1 s.2.2.2.2.1 s.2.2.2.2.2) (xs := m.funcs) (mk := fun i (a : Unit) => ((i : Int), mtup m)) (I := fun i a => (m.funcs.take i).any (badF m) = false)
   (Q := fun y => (m.funcs.any (badF m) = true ∧ ∃ z, y = Sum.inl (1, z)) ∨ (m.funcs.any (badF m) = false ∧ y = Sum.inr (mtup m))) (fun i a x hx hI => ?_) (fun a hI => ?_) m.funcs.length 0 n () (by omega) rfl (by omega)
  ·obtain ⟨y, h1, h2⟩ := h
   rw [show qba_W0 n (0, mtup m) = some y from h1, Option.bind_some]
   rcases h2 with ⟨h3, z, rfl⟩ | ⟨h3, rfl⟩
   ·rw [h3]; rfl
   ·rw [h3]
    show ((qba_W6 n (0, mtup m)).bind _) = _
    have h6 := zr (B := fun s => qba_B6 n s.1 s.2.1 s.2.2.1 s.2.2.2.1 s.2.2.2.2.1 s.2.2.2.2.2) (xs := m.imps) (mk := fun i => ((i : Int), mtup m)) (p := badH) (found := fun i x => Sum.inl (1, mtup m)) (e := Sum.inr (mtup m))
     (fun i x hx => ?_) ?_ m.imps.length 0 n (by omega) (by omega)
    ·rw [List.drop_zero] at h6
     rcases h6 with ⟨q1, k, x, _, _, q2⟩ | ⟨q1, q2⟩
     ·rw [show qba_W6 n (0, mtup m) = _ from q2, q1]; rfl
     ·rw [show qba_W6 n (0, mtup m) = _ from q2, q1]; rfl
    ·have hi := zk hx
     show qba_B6 n (i : Int) m.recs m.funcs m.imps m.ints m.texts = _
     unfold qba_B6
     rw [zb, decide_eq_true (by omega), cond_true, ze, hx, Option.bind_some, show qbi n x.2.1 x.2.2 = some (hostV (x.2.1, x.2.2)) from zgQ n (x.2.1, x.2.2), Option.bind_some]
     show ((qba_W8 n (((i : Int), (hostV (x.2.1, x.2.2), 0)), mtup m)).bind _) = _
     rw [refCheckHost n m i x hx _ (k5 x (List.mem_of_getElem? hx)) (by omega), Option.bind_some]
     simp only []
     rw [zg (by omega)]
     have : (!(hostV (x.2.1, x.2.2) && x.1.all hostV)) = badH x := by
      unfold badH
      rw [Bool.not_and, ← zdG hostV, Bool.not_not]
     rw [this]
     cases badH x <;> rfl
    ·show qba_B6 n (m.imps.length : Int) m.recs m.funcs m.imps m.ints m.texts = _
     unfold qba_B6
     rw [zb, decide_eq_false (by omega), cond_false]
  ·have hi := zk hx
   have hm := List.mem_of_getElem? hx
   obtain ⟨q1, q2, q3, _⟩ := k4 x hm
   obtain ⟨y, hy, hcase⟩ := refCheckCode n m x (i : Int) q1 q2 (by omega)
   obtain ⟨z, hz, hcase2⟩ := refCheckLocals n m x (i : Int) q3 (by omega)
   have hstep : ∀ s, qba_B0 n (i : Int) m.recs m.funcs m.imps m.ints m.texts = s → (fun s => qba_B0 n s.1 s.2.1 s.2.2.1 s.2.2.2.1 s.2.2.2.2.1 s.2.2.2.2.2) ((i : Int), mtup m) = s := fun s h => h
   unfold qba_B0 at hstep
   rw [zb, decide_eq_true (by omega), cond_true, ze, hx, Option.bind_some, show qba_W2 n (((i : Int), 0), ((m.recs, (m.funcs, (m.imps, (m.ints, m.texts)))), (x.1, (x.2.1, (x.2.2.1, (x.2.2.2.1, x.2.2.2.2)))))) = _ from hy, Option.bind_some] at hstep
   rcases hcase with ⟨c1, rfl⟩ | ⟨c1, rfl⟩
   ·refine .inr ⟨_, hstep _ rfl, .inl ⟨List.any_eq_true.2 ⟨x, hm, ?_⟩, _, rfl⟩⟩
    unfold badF; rw [c1]; rfl
   ·simp only [] at hstep
    rw [show qba_W4 n (((i : Int), 0), ((m.recs, (m.funcs, (m.imps, (m.ints, m.texts)))), (x.1, (x.2.1, (x.2.2.1, (x.2.2.2.1, x.2.2.2.2)))))) = _ from hz, Option.bind_some] at hstep
    rcases hcase2 with ⟨c2, rfl⟩ | ⟨c2, rfl⟩
    ·refine .inr ⟨_, hstep _ rfl, .inl ⟨List.any_eq_true.2 ⟨x, hm, ?_⟩, _, rfl⟩⟩
     unfold badF; rw [c1, c2]; rfl
    ·simp only [] at hstep
     rw [zg (by omega)] at hstep
     refine .inl ⟨(), hstep _ rfl, ?_⟩
     rw [List.take_add_one, hx, List.any_append, hI]
     have : badF m x = false := by unfold badF; rw [c1, c2]; rfl
     simpa using this
  ·rw [List.take_length] at hI
   refine ⟨_, ?_, .inr ⟨hI, rfl⟩⟩
   show qba_B0 n (m.funcs.length : Int) m.recs m.funcs m.imps m.ints m.texts = _
   unfold qba_B0
   rw [zb, decide_eq_false (by omega), cond_false]
noncomputable def mainV (m : ModD) : Bool := checkV m == 0 && match m.funcs with
 | [] => false
 | f :: _ => decide (f.1.length = 0) && f.2.1 == 1
theorem zke {m : ModD} (h : checkV m = 0) : ∃ f r, m.funcs = f :: r := by
 unfold checkV at h
 cases hf : fitsV m with
 | false => rw [hf] at h; cases h
 | true =>
  have := (zaq hf).2.2.1
  cases hm : m.funcs with
  | nil => rw [hm] at this; simp at this
  | cons f r => exact ⟨f, r, rfl⟩
theorem zjf (m : ModD) (x : Option Int) (hx : x = some (checkV m)) :
  (x.bind fun r => bif r == 0 then (getI m.funcs 0).bind fun x1 => bif lenI x1.1 == 0 then (getI m.funcs 0).bind fun x2 => some (x2.2.1 == 1) else some false else some false) = some (mainV m) := by
 rw [hx, Option.bind_some]
 unfold mainV
 cases hc : checkV m == 0 with
 | false => rfl
 | true =>
  obtain ⟨f, r, hm⟩ := zke (eq_of_beq hc)
  rw [hm]
  show (bif lenI f.1 == 0 then some (f.2.1 == 1) else some false) = some (true && (decide (f.1.length = 0) && f.2.1 == 1))
  rw [zb]
  by_cases h0 : f.1.length = 0
  ·rw [show ((f.1.length : Int) == 0) = true by rw [h0]; rfl, decide_eq_true h0]
   simp
  ·rw [show ((f.1.length : Int) == 0) = false by rw [beq_eq_false_iff_ne]; omega, decide_eq_false h0]
   simp
theorem zoP (n : Nat) (m : ModD) (ho : OkM m) (hn : 200 ≤ n) : qby n m.recs m.funcs m.imps m.ints m.texts = some (mainV m) := zjf m _ (zix n m ho hn)
theorem zml (n : Nat) (m : ModD) (ho : OkM m) (hL : LightM m) (hn : 6000 ≤ n) : qbq n m.recs m.funcs m.imps m.ints m.texts = some (mainV m) := zjf m _ (zfY n m ho hL hn)
end Sx
end
section
/- The rules of instructions: the program's are the document's. -/
set_option linter.unusedVariables false
set_option linter.unusedSimpArgs false
namespace Sx
open Go Go.Ab
theorem zbO {α : Type} {s : List α} (h : 1 ≤ s.length) : ∃ r x, s = r ++ [x] := by
 refine ⟨s.dropLast, s.getLast (by intro e; rw [e] at h; simp at h), ?_⟩
 rw [List.dropLast_concat_getLast]
theorem zhr {α : Type} {s : List α} (h : 2 ≤ s.length) : ∃ r x y, s = r ++ [x, y] := by
 obtain ⟨r, y, rfl⟩ := zbO (s := s) (by omega)
 obtain ⟨q, x, rfl⟩ := zbO (s := r) (by simp at h; omega)
 exact ⟨q, x, y, by simp⟩
theorem zC (r l : List (Int × Int)) (k j : Nat) (hl : r.length + l.length ≤ 1000000) (hj : k = l.length - j) (h1 : 1 ≤ k) (hk : k ≤ l.length) : getI (r ++ l) (subI .i64 (lenI (r ++ l)) (k : Int)) = l[l.length - k]? := by
 have h : subI .i64 (lenI (r ++ l)) (k : Int) = ((r.length + (l.length - k) : Nat) : Int) := by
  rw [zb, List.length_append, zA (by omega) (by omega)]; omega
 rw [h, ze, List.getElem?_append_right (by omega)]
 congr 1
 omega
theorem zos (n : Nat) (m : ModD) (f : FnD) (x y : Int) (s : List TyD) (hs : s.length ≤ 1000) :
  qct n m.recs m.funcs m.imps m.ints m.texts f.1 f.2.1 f.2.2.1 f.2.2.2.1 f.2.2.2.2 6 x y s = (qbo n m.recs m.funcs m.imps m.ints m.texts f.1 f.2.1 f.2.2.1 f.2.2.2.1 f.2.2.2.2 6 x y s).map fun r => ((r.1, r.2.1), r.2.2) := by
 simp only [qct, qci, qbo, qbt, Int.reduceBEq, cond_false, cond_true, Option.bind_some]
 by_cases h : 1 ≤ s.length
 ·obtain ⟨r, t, rfl⟩ := zbO h
  rw [List.length_append, List.length_singleton] at hs
  have hg := zC r [t] 1 0 (by simp; omega) rfl (by omega) (by simp)
  have hg : getI (r ++ [t]) (subI .i64 (lenI (r ++ [t])) 1) = some t := hg
  have hsub : subI .i64 (lenI (r ++ [t])) 1 = ((r.length : Nat) : Int) := by
   rw [zb, List.length_append, zA (by simp <;> omega) (by simp <;> omega)]; simp
  rw [hg, hsub, zb, List.length_append, List.length_singleton, decide_eq_true (by omega), decide_eq_false (by omega), decide_eq_true (by omega), decide_eq_true (by omega)]
  simp only [cond_true, cond_false, Option.bind_some, Bool.and_self, Option.map_some, Int.toNat_natCast]
  rw [List.take_of_length_le (by simp), List.drop_left]
 ·rw [zb, decide_eq_false (by omega), decide_eq_true (by omega)]
  rfl
theorem znw (n : Nat) (m : ModD) (f : FnD) (x y : Int) (s : List TyD) (hs : s.length ≤ 1000) :
  qct n m.recs m.funcs m.imps m.ints m.texts f.1 f.2.1 f.2.2.1 f.2.2.2.1 f.2.2.2.2 7 x y s = (qbo n m.recs m.funcs m.imps m.ints m.texts f.1 f.2.1 f.2.2.1 f.2.2.2.1 f.2.2.2.2 7 x y s).map fun r => ((r.1, r.2.1), r.2.2) := by
 simp only [qct, qci, qbo, qbt, Int.reduceBEq, cond_false, cond_true, Option.bind_some]
 by_cases h : 2 ≤ s.length
 ·obtain ⟨r, t, u, rfl⟩ := zhr h
  rw [List.length_append] at hs
  simp only [List.length_cons, List.length_nil] at hs
  have hg1 : getI (r ++ [t, u]) (subI .i64 (lenI (r ++ [t, u])) 1) = some u := zC r [t, u] 1 1 (by simp; omega) rfl (by omega) (by simp)
  have hg2 : getI (r ++ [t, u]) (subI .i64 (lenI (r ++ [t, u])) 2) = some t := zC r [t, u] 2 0 (by simp; omega) rfl (by omega) (by simp)
  have hsub : subI .i64 (lenI (r ++ [t, u])) 2 = ((r.length : Nat) : Int) := by
   rw [zb, List.length_append, zA (by simp <;> omega) (by simp <;> omega)]; simp
  rw [hg1, hg2, hsub, zb, List.length_append]
  simp only [List.length_cons, List.length_nil]
  rw [decide_eq_true (by omega), decide_eq_false (by omega), decide_eq_true (by omega), decide_eq_true (by omega)]
  simp only [cond_true, cond_false, Option.bind_some, Bool.and_self, Option.map_some, Int.toNat_natCast]
  rw [List.take_of_length_le (by simp), List.drop_left]
 ·rw [zb, decide_eq_false (by omega), decide_eq_true (by omega)]
  rfl
theorem zma (n : Nat) (m : ModD) (f : FnD) (x y : Int) (s : List TyD) (hs : s.length ≤ 1000) :
  qct n m.recs m.funcs m.imps m.ints m.texts f.1 f.2.1 f.2.2.1 f.2.2.2.1 f.2.2.2.2 41 x y s = (qbo n m.recs m.funcs m.imps m.ints m.texts f.1 f.2.1 f.2.2.1 f.2.2.2.1 f.2.2.2.2 41 x y s).map fun r => ((r.1, r.2.1), r.2.2) := by
 simp only [qct, qci, qbo, qbt, Int.reduceBEq, cond_false, cond_true, Option.bind_some]
 by_cases h : 1 ≤ s.length
 ·obtain ⟨r, t, rfl⟩ := zbO h
  rw [List.length_append, List.length_singleton] at hs
  have hg : getI (r ++ [t]) (subI .i64 (lenI (r ++ [t])) 1) = some t := zC r [t] 1 0 (by simp; omega) rfl (by omega) (by simp)
  have hsub : subI .i64 (lenI (r ++ [t])) 1 = ((r.length : Nat) : Int) := by
   rw [zb, List.length_append, zA (by simp <;> omega) (by simp <;> omega)]; simp
  rw [hg, hsub, zb, List.length_append, List.length_singleton, decide_eq_true (by omega), decide_eq_false (by omega), decide_eq_true (by omega), decide_eq_true (by omega)]
  simp only [cond_true, cond_false, Option.bind_some, Bool.and_self, Option.map_some, Int.toNat_natCast]
  rw [List.take_of_length_le (by simp), List.drop_left]
  obtain ⟨t1, t2⟩ := t
  by_cases h5 : t1 = 5
  ·subst h5; rfl
  ·rw [show (t1 == 5) = false from beq_eq_false_iff_ne.2 h5, show (t1 != 5) = true from bne_iff_ne.2 h5]; rfl
 ·rw [zb, decide_eq_false (by omega), decide_eq_true (by omega)]
  rfl
theorem zoN (n : Nat) (m : ModD) (f : FnD) (i : InD) (s : List TyD) (hb : badI i = false) (hl : f.1.length + f.2.2.2.1.length ≤ 1000) (hs : s.length ≤ 1000) :
  qct n m.recs m.funcs m.imps m.ints m.texts f.1 f.2.1 f.2.2.1 f.2.2.2.1 f.2.2.2.2 i.1 i.2.1 i.2.2 s = (qbo n m.recs m.funcs m.imps m.ints m.texts f.1 f.2.1 f.2.2.1 f.2.2.2.1 f.2.2.2.2 i.1 i.2.1 i.2.2 s).map fun r => ((r.1, r.2.1), r.2.2) := by
 unfold badI at hb
 have hb := of_decide_eq_false hb
 have ha := zdb (op := i.1) (by omega)
 obtain ⟨op, x, y⟩ := i
 have hk : op = 0 ∨ op = 1 ∨ op = 2 ∨ op = 3 ∨ op = 4 ∨ op = 5 ∨ op = 6 ∨ op = 7 ∨ op = 8 ∨ op = 9 ∨ op = 10 ∨ op = 11 ∨ op = 12 ∨ op = 13 ∨ op = 14 ∨ op = 15 ∨ op = 16 ∨ op = 17 ∨ op = 18 ∨ op = 19 ∨ op = 20 ∨ op = 21 ∨ op = 22 ∨ op = 23 ∨ op = 24 ∨ op = 25 ∨ op = 26 ∨ op = 27 ∨ op = 28 ∨ op = 29 ∨ op = 30 ∨ op = 31 ∨ op = 32 ∨ op = 33 ∨ op = 34 ∨ op = 35 ∨ op = 36 ∨ op = 37 ∨ op = 38 ∨ op = 39 ∨ op = 40 ∨ op = 41 := by simp only at ha; omega
 rcases hk with rfl | rfl | rfl | rfl | rfl | rfl | rfl | rfl | rfl | rfl | rfl | rfl | rfl | rfl | rfl | rfl | rfl | rfl | rfl | rfl | rfl | rfl | rfl | rfl | rfl | rfl | rfl | rfl | rfl | rfl | rfl | rfl | rfl | rfl | rfl | rfl | rfl | rfl | rfl | rfl | rfl | rfl
 ·rfl
 ·rfl
 ·rfl
 ·simp only [qct, qbw, qbm, qbo, qbt, Int.reduceBEq, cond_false, cond_true, Option.bind_some, ge_iff_le, Int.reduceLE, decide_false, qbj_eq n f.1 f.2.1 f.2.2.1 f.2.2.2.1 f.2.2.2.2 x (by omega), zbK n f.1 f.2.1 f.2.2.1 f.2.2.2.1 f.2.2.2.2 x (by omega), Option.map_some, Bool.false_eq_true]
 ·simp only [qct, qbw, qbm, qbo, qbt, Int.reduceBEq, cond_false, cond_true, Option.bind_some, ge_iff_le, Int.reduceLE, decide_false, qbj_eq n f.1 f.2.1 f.2.2.1 f.2.2.2.1 f.2.2.2.2 x (by omega), zbK n f.1 f.2.1 f.2.2.1 f.2.2.2.1 f.2.2.2.2 x (by omega), Option.map_some, Bool.false_eq_true]
 ·rfl
 ·exact zos n m f x y s hs
 ·exact znw n m f x y s hs
 ·rfl
 ·rfl
 ·rfl
 ·rfl
 ·rfl
 ·rfl
 ·rfl
 ·rfl
 ·rfl
 ·rfl
 ·rfl
 ·rfl
 ·rfl
 ·rfl
 ·rfl
 ·rfl
 ·rfl
 ·simp only [qct, qbw, qbm, qbo, qbt, Int.reduceBEq, cond_false, cond_true, Option.bind_some, ge_iff_le, Int.reduceLE, decide_false, decide_true]
  cases getI m.funcs x <;> rfl
 ·rfl
 ·simp only [qct, qbw, qbm, qbo, qbt, Int.reduceBEq, cond_false, cond_true, Option.bind_some, ge_iff_le, Int.reduceLE, decide_false, decide_true]
  cases getI m.imps x <;> rfl
 ·simp only [qct, qbw, qbm, qbo, qbt, Int.reduceBEq, cond_false, cond_true, Option.bind_some, ge_iff_le, Int.reduceLE, decide_false, decide_true]
  cases getI m.recs x <;> rfl
 ·simp only [qct, qbw, qbm, qbo, qbt, Int.reduceBEq, cond_false, cond_true, Option.bind_some, ge_iff_le, Int.reduceLE, decide_false, decide_true]
  cases getI m.recs x with
  | none => rfl
  | some l => simp only [Option.bind_some]; cases getI l y <;> rfl
 ·simp only [qct, qbw, qbm, qbo, qbt, Int.reduceBEq, cond_false, cond_true, Option.bind_some, ge_iff_le, Int.reduceLE, decide_false, decide_true]
  cases getI m.recs x with
  | none => rfl
  | some l => simp only [Option.bind_some]; cases getI l y <;> rfl
 ·rfl
 ·rfl
 ·rfl
 ·rfl
 ·rfl
 ·rfl
 ·rfl
 ·rfl
 ·rfl
 ·rfl
 ·exact zma n m f x y s hs
end Sx
end
section
/- One step: the program's answer is the document's. -/
set_option linter.unusedVariables false
set_option linter.unusedSimpArgs false
namespace Sx
open Go Go.Ab
theorem zoS (n : Nat) (s : List TyD) : qcj n s = some s := by
 unfold qcj
 rw [zb, decide_eq_true (by omega), decide_eq_true (by omega), decide_eq_true (by omega), Int.toNat_natCast, List.take_length]
 rfl
theorem zoK (n k : Nat) (hk : k ≤ 1000) : qcg n (k : Int) = if k = 0 then some (Sum.inr ()) else some (Sum.inl ((0, 0), List.replicate k (0, 0))) := by
 unfold qcg
 rw [decide_eq_false (by omega), cond_false, zA (by omega) (by omega)]
 by_cases h : k = 0
 ·subst h; rfl
 ·have e : (k : Int) - 0 = (k : Int) := by omega
  rw [if_neg h, e, decide_eq_true (by omega), cond_true, Int.toNat_natCast, decide_eq_true (by omega), show Nat.ble k 4294967296 = true from by rw [Nat.ble_eq]; omega]
  simp only [Bool.and_self, cond_true]
  rw [decide_eq_true (by omega)]; rfl
theorem zkW (n : Nat) (a b : List TyD) (ha : a.length ≤ 300) (hb : b.length ≤ 300) (hn : 10 ≤ n) : qbf_W0 n ([a, b], (0, ([a, b], (lenI [a, b], 0)))) = some ([a, b], ((a.length + b.length : Nat) : Int)) := by
 obtain ⟨m, rfl⟩ : ∃ m, n = m + 3 := ⟨n - 3, by omega⟩
 have h0 : qbf_B0 (m + 3) [a, b] 0 [a, b] 2 0 = some (Sum.inl ([a, b], ((a.length : Int), ([a, b], ((2 : Int), (1 : Int)))))) := by
  unfold qbf_B0
  rw [show (decide ((0 : Int) < 2)) = true from rfl, cond_true, show getI [a, b] 0 = some a from rfl, Option.bind_some, zb, zaf (by omega) (by omega), decide_eq_false (by omega), cond_false, show addI .i64 0 1 = 1 from rfl]
  simp
 have h1 : qbf_B0 (m + 3) [a, b] (a.length : Int) [a, b] 2 1 = some (Sum.inl ([a, b], (((a.length + b.length : Nat) : Int), ([a, b], ((2 : Int), (2 : Int)))))) := by
  unfold qbf_B0
  rw [show (decide ((1 : Int) < 2)) = true from rfl, cond_true, show getI [a, b] 1 = some b from rfl, Option.bind_some, zb, zaf (by omega) (by omega), decide_eq_false (by omega), cond_false, show addI .i64 1 1 = 2 from rfl]
  simp
 exact (zE (B := fun s => qbf_B0 (m + 3) s.1 s.2.1 s.2.2.1 s.2.2.2.1 s.2.2.2.2) (s := ([a, b], ((0 : Int), ([a, b], ((2 : Int), (0 : Int)))))) h0).trans ((zE (B := fun s => qbf_B0 (m + 3) s.1 s.2.1 s.2.2.1 s.2.2.2.1 s.2.2.2.2) (s := ([a, b], ((a.length : Int), ([a, b], ((2 : Int), (1 : Int)))))) h1).trans (zR rfl))
theorem zmi (n : Nat) (a b m0 : List TyD) (hb : b.length ≤ 300) (hm : m0.length ≤ 1000) : qbf_B2x1q1 n [a, b] 2 1 m0 = some (Sum.inl (Sum.inr (Sum.inl (([a, b], ((2 : Int), (2 : Int))), m0 ++ b)))) := by
 unfold qbf_B2x1q1
 rw [show (decide ((1 : Int) < 2)) = true from rfl, cond_true, show getI [a, b] 1 = some b from rfl, Option.bind_some, zo (by rw [List.length_append]; omega), cond_true]
 rfl
theorem zge (n k : Nat) (a b m0 : List TyD) (hb : b.length ≤ 300) (hm : m0.length ≤ 1000) : loopS (qbf_M2x1 n) (k + 2) (Sum.inr (Sum.inl (([a, b], ((2 : Int), (1 : Int))), m0))) = some (Sum.inr (Sum.inl (m0 ++ b))) :=
 (zE (zmi n a b m0 hb hm)).trans (zR rfl)
theorem znh (n : Nat) (a b : List TyD) (ha : a.length ≤ 300) (hb : b.length ≤ 300) (hn : 10 ≤ n) : qbf n [a, b] = some (Sum.inr (a ++ b)) := by
 unfold qbf
 rw [zkW n a b ha hb hn, Option.bind_some]
 simp only
 rw [zoK n _ (by omega), show lenI [a, b] = 2 from rfl]
 obtain ⟨m, rfl⟩ : ∃ m, n = m + 3 := ⟨n - 3, by omega⟩
 by_cases h : a.length + b.length = 0
 ·rw [if_pos h, Option.bind_some]
  have h1 : qbf_W2x1 (m + 3) (Sum.inr (Sum.inr ([a, b], ((2 : Int), (0 : Int))))) = some (Sum.inr (Sum.inl (a ++ b))) := by
   refine (zE (B := qbf_M2x1 (m + 3)) (s' := Sum.inr (Sum.inl (([a, b], ((2 : Int), (1 : Int))), a))) ?_).trans (zge (m + 3) m a b a hb (by omega))
   show qbf_B2x1q2 (m + 3) [a, b] 2 0 = _
   unfold qbf_B2x1q2
   rw [show (decide ((0 : Int) < 2)) = true from rfl, cond_true, show getI [a, b] 0 = some a from rfl, Option.bind_some, zo (by omega), cond_true]
   rfl
  show ((qbf_W2x1 (m + 3) (Sum.inr (Sum.inr ([a, b], ((2 : Int), (0 : Int)))))).bind _) = _
  rw [h1]; rfl
 ·rw [if_neg h, Option.bind_some]
  have h1 : qbf_W2x1 (m + 3) (Sum.inl (((0, 0), ([a, b], ((2 : Int), (0 : Int)))), List.replicate (a.length + b.length) (0, 0))) = some (Sum.inr (Sum.inl (a ++ b))) := by
   refine (zE (B := qbf_M2x1 (m + 3)) (s' := Sum.inr (Sum.inl (([a, b], ((2 : Int), (1 : Int))), a))) ?_).trans (zge (m + 3) m a b a hb (by omega))
   show qbf_B2x1q0 (m + 3) (0, 0) [a, b] 2 0 (List.replicate (a.length + b.length) (0, 0)) = _
   unfold qbf_B2x1q0
   rw [show (decide ((0 : Int) < 2)) = true from rfl, cond_true, show getI [a, b] 0 = some a from rfl, Option.bind_some]
   simp only [List.take_zero, List.nil_append, Nat.beq, cond_true]
   rw [show Nat.ble (0 + 0) (List.length (List.replicate (a.length + b.length) ((0 : Int), (0 : Int)))) = true from (by rw [Nat.ble_eq]; omega), cond_true, zo (by omega), cond_true]
   rfl
  show ((qbf_W2x1 (m + 3) (Sum.inl (((0, 0), ([a, b], ((2 : Int), (0 : Int)))), List.replicate (a.length + b.length) (0, 0)))).bind _) = _
  rw [h1]; rfl
abbrev FR := List TyD × List Int × Int
def takesV (s inn : List TyD) : Bool := (inn.zip (s.drop (s.length - inn.length))).all fun q => subV q.2 q.1
def nextV (i : InD) (pc : Int) : List Int := if i.1 = 26 then [] else if i.1 = 23 then [i.2.1] else if i.1 = 24 then [pc + 1, i.2.1] else [pc + 1]
def stepV (f : FnD) (i : InD) (pc : Int) (s : List TyD) (r : List TyD × List TyD × Bool) : FR :=
 if r.2.2 = false ∨ s.length < r.1.length ∨ s.length - r.1.length + r.2.1.length > 8 ∨ takesV s r.1 = false then ([], [], 4) else
 if i.1 ≠ 26 ∧ i.1 ≠ 23 ∧ pc + 1 ≥ (f.2.2.2.2.length : Int) then ([], [], 1) else (s.take (s.length - r.1.length) ++ r.2.1, nextV i pc, 0)
theorem zjj {S X : Type} (inn : List TyD) (s : List TyD) (hl : inn.length ≤ s.length) {B : S → Option (S ⊕ X)} {mk : Nat → S} {found : Nat → TyD → TyD → X} {e : X}
  (hs : ∀ i x y, inn[i]? = some x → s[s.length - inn.length + i]? = some y → B (mk i) = (if subV y x = true then some (.inl (mk (i + 1))) else some (.inr (found i x y))))
  (he : B (mk inn.length) = some (.inr e)) (n : Nat) (hn : inn.length < n) :
  (takesV s inn = true ∧ loopS B n (mk 0) = some e) ∨ (takesV s inn = false ∧ ∃ i x y, loopS B n (mk 0) = some (found i x y)) :=
 loop_two (p := fun x y => subV y x) (by rw [List.length_drop]; omega) (fun i x y hx hy => hs i x y hx (by rw [List.getElem?_drop] at hy; exact hy)) he n hn
theorem qcl_eq (n : Nat) (m : ModD) (fk pk : Nat) (f : FnD) (i : InD) (s : List TyD) (r : List TyD × List TyD × Bool) (hf : m.funcs[fk]? = some f) (hi : f.2.2.2.2[pk]? = some i) (hb : badI i = false) (hl : f.1.length + f.2.2.2.1.length ≤ 200)
  (hr : qbo n m.recs m.funcs m.imps m.ints m.texts f.1 f.2.1 f.2.2.1 f.2.2.2.1 f.2.2.2.2 i.1 i.2.1 i.2.2 s = some r) (hs : s.length ≤ 200) (h1 : r.1.length ≤ 200) (h2 : r.2.1.length ≤ 200) (hp : pk ≤ 200) (hc : f.2.2.2.2.length ≤ 200)
  (hj : i.1 = 23 → i.2.1 < (f.2.2.2.2.length : Int)) (hn : 1000 ≤ n) : qcl n m.recs m.funcs m.imps m.ints m.texts (fk : Int) (pk : Int) s = some (stepV f i (pk : Int) s r) := by
 unfold qcl stepV
 rw [ze, hf, Option.bind_some, ze, hi, Option.bind_some, zoN n m f i s hb (by omega) (by omega), hr, Option.map_some, Option.bind_some]
 obtain ⟨inn, out, ok⟩ := r
 simp only at h1 h2 ⊢
 cases ok with
 | false => rw [if_pos (.inl rfl)]; rfl
 | true =>
  rw [zb, zb, zb]
  simp only [Bool.not_true, cond_false, Bool.true_eq_false, false_or]
  by_cases h3 : s.length < inn.length
  ·rw [if_pos (.inl h3), zA (by omega) (by omega), decide_eq_true (by omega)]; rfl
  ·have hsub : subI .i64 (s.length : Int) (inn.length : Int) = ((s.length - inn.length : Nat) : Int) := by rw [zA (by omega) (by omega)]; omega
   rw [hsub, decide_eq_false (by omega), cond_false, zaf (by omega) (by omega)]
   by_cases h4 : s.length - inn.length + out.length > 8
   ·rw [if_pos (.inr (.inl h4)), decide_eq_true (by omega)]; rfl
   ·rw [decide_eq_false (by omega), cond_false]
    have hL := zjj inn s (by omega) (B := fun q => qcl_B0 n q.1.1 q.1.2.1 q.1.2.2.1 q.1.2.2.2.1 q.1.2.2.2.2.1 q.1.2.2.2.2.2 q.2.1.1 q.2.1.2.1 q.2.1.2.2.1 q.2.1.2.2.2.1 q.2.1.2.2.2.2 q.2.2.1 q.2.2.2)
     (mk := fun (j : Nat) => (((pk : Int), (s, (((s.length - inn.length : Nat) : Int), (inn, ((inn.length : Int), (j : Int)))))), ((f.1, (f.2.1, (f.2.2.1, (f.2.2.2.1, f.2.2.2.2)))), (inn, out))))
     (found := fun j x y => Sum.inl ((([] : List TyD), (([] : List Int), (4 : Int))), ((f.1, (f.2.1, (f.2.2.1, (f.2.2.2.1, f.2.2.2.2)))), ((inn, out), (x.1, x.2)))))
     (e := Sum.inr (((pk : Int), (s, ((s.length - inn.length : Nat) : Int))), ((f.1, (f.2.1, (f.2.2.1, (f.2.2.2.1, f.2.2.2.2)))), (inn, out))))
     (fun j x y hx hy => by
      have hjl := zai hx
      show qcl_B0 n (pk : Int) s ((s.length - inn.length : Nat) : Int) inn (inn.length : Int) (j : Int) f.1 f.2.1 f.2.2.1 f.2.2.2.1 f.2.2.2.2 inn out = _
      unfold qcl_B0
      have ha : addI .i64 ((s.length - inn.length : Nat) : Int) (j : Int) = ((s.length - inn.length + j : Nat) : Int) := by rw [zaf (by omega) (by omega)]; omega
      rw [decide_eq_true (by omega), cond_true, ze, hx, Option.bind_some, ha, ze, hy, Option.bind_some, qcp_eq n y x, Option.bind_some, zg (by omega)]
      cases subV y x <;> rfl)
     (by
      show qcl_B0 n (pk : Int) s ((s.length - inn.length : Nat) : Int) inn (inn.length : Int) (inn.length : Int) f.1 f.2.1 f.2.2.1 f.2.2.2.1 f.2.2.2.2 inn out = _
      unfold qcl_B0
      rw [decide_eq_false (by omega), cond_false]) n (by omega)
    rcases hL with ⟨ht, hW⟩ | ⟨ht, j, x, y, hW⟩
    ·rw [show qcl_W0 n (((pk : Int), (s, (((s.length - inn.length : Nat) : Int), (inn, ((inn.length : Int), 0))))), ((f.1, (f.2.1, (f.2.2.1, (f.2.2.2.1, f.2.2.2.2)))), (inn, out))) = _ from hW, Option.bind_some]
     simp only
     rw [if_neg (by rw [ht]; simp; omega), ze, hi, Option.bind_some]
     have htake : (decide ((0 : Int) ≤ ((s.length - inn.length : Nat) : Int)) && decide (((s.length - inn.length : Nat) : Int) ≤ ((s.length : Nat) : Int))) = true := by
      rw [decide_eq_true (by omega), decide_eq_true (by omega)]; rfl
     rw [htake, Int.toNat_natCast, znh n _ out (by rw [List.length_take]; omega) (by omega) (by omega)]
     simp only [Option.bind_some, cond_true]
     rw [zoS n]
     simp only [Option.bind_some]
     unfold qcf nextV
     by_cases e26 : i.1 = 26
     ·rw [e26]; rfl
     ·rw [show (i.1 == 26) = false from beq_eq_false_iff_ne.2 e26, cond_false, if_neg e26]
      by_cases e23 : i.1 = 23
      ·have hj' := hj e23
       rw [show (i.1 == 23) = true from beq_iff_eq.2 e23, cond_true, if_pos e23, Option.bind_some]
       rw [show (decide (lenI [i.2.1] > 0)) = true from rfl, cond_true, show getI [i.2.1] 0 = some i.2.1 from rfl, Option.bind_some, zb, decide_eq_false (by omega), cond_false, if_neg (by omega)]
      ·rw [show (i.1 == 23) = false from beq_eq_false_iff_ne.2 e23, cond_false, if_neg e23, zaf (by omega) (by omega)]
       by_cases e24 : i.1 = 24
       ·rw [show (i.1 == 24) = true from beq_iff_eq.2 e24, cond_true, if_pos e24, Option.bind_some]
        rw [show (decide (lenI [(pk : Int) + 1, i.2.1] > 0)) = true from rfl, cond_true, show getI [(pk : Int) + 1, i.2.1] 0 = some ((pk : Int) + 1) from rfl, Option.bind_some, zb]
        by_cases h5 : (pk : Int) + 1 ≥ (f.2.2.2.2.length : Int)
        ·rw [decide_eq_true h5, cond_true, if_pos ⟨e26, e23, h5⟩]
        ·rw [decide_eq_false h5, cond_false, if_neg (by omega)]
       ·rw [show (i.1 == 24) = false from beq_eq_false_iff_ne.2 e24, cond_false, if_neg e24, Option.bind_some]
        rw [show (decide (lenI [(pk : Int) + 1] > 0)) = true from rfl, cond_true, show getI [(pk : Int) + 1] 0 = some ((pk : Int) + 1) from rfl, Option.bind_some, zb]
        by_cases h5 : (pk : Int) + 1 ≥ (f.2.2.2.2.length : Int)
        ·rw [decide_eq_true h5, cond_true, if_pos ⟨e26, e23, h5⟩]
        ·rw [decide_eq_false h5, cond_false, if_neg (by omega)]
    ·rw [show qcl_W0 n (((pk : Int), (s, (((s.length - inn.length : Nat) : Int), (inn, ((inn.length : Int), 0))))), ((f.1, (f.2.1, (f.2.2.1, (f.2.2.2.1, f.2.2.2.2)))), (inn, out))) = _ from hW, Option.bind_some, if_pos (.inr (.inr ht))]
theorem zmg (n : Nat) (m : ModD) (fk pk : Nat) (f : FnD) (i : InD) (s : List TyD) (r : List TyD × List TyD × Bool) (hf : m.funcs[fk]? = some f) (hi : f.2.2.2.2[pk]? = some i)
  (hr : qbo n m.recs m.funcs m.imps m.ints m.texts f.1 f.2.1 f.2.2.1 f.2.2.2.1 f.2.2.2.2 i.1 i.2.1 i.2.2 s = some r) (hs : s.length ≤ 200) (h1 : r.1.length ≤ 200) (h2 : r.2.1.length ≤ 200) (hp : pk ≤ 200) (hc : f.2.2.2.2.length ≤ 200)
  (hn : 1000 ≤ n) : qbp n m.recs m.funcs m.imps m.ints m.texts (fk : Int) (pk : Int) s = some (stepV f i (pk : Int) s r) := by
 unfold qbp stepV
 rw [ze, hf, Option.bind_some, ze, hi, Option.bind_some, hr, Option.bind_some]
 obtain ⟨inn, out, ok⟩ := r
 simp only at h1 h2 ⊢
 cases ok with
 | false => rw [if_pos (.inl rfl)]; rfl
 | true =>
  rw [zb, zb, zb]
  simp only [Bool.not_true, cond_false, Bool.true_eq_false, false_or]
  by_cases h3 : s.length < inn.length
  ·rw [if_pos (.inl h3), zA (by omega) (by omega), decide_eq_true (by omega)]; rfl
  ·have hsub : subI .i64 (s.length : Int) (inn.length : Int) = ((s.length - inn.length : Nat) : Int) := by rw [zA (by omega) (by omega)]; omega
   rw [hsub, decide_eq_false (by omega), cond_false, zaf (by omega) (by omega)]
   by_cases h4 : s.length - inn.length + out.length > 8
   ·rw [if_pos (.inr (.inl h4)), decide_eq_true (by omega)]; rfl
   ·rw [decide_eq_false (by omega), cond_false]
    have hL := zjj inn s (by omega) (B := fun q => qbp_B0 n q.1.1 q.1.2.1 q.1.2.2.1 q.1.2.2.2.1 q.1.2.2.2.2.1 q.1.2.2.2.2.2 q.2.1.1 q.2.1.2.1 q.2.1.2.2.1 q.2.1.2.2.2.1 q.2.1.2.2.2.2 q.2.2.1 q.2.2.2.1 q.2.2.2.2)
     (mk := fun (j : Nat) => (((pk : Int), (s, (inn, (out, (((s.length - inn.length : Nat) : Int), (j : Int)))))), ((f.1, (f.2.1, (f.2.2.1, (f.2.2.2.1, f.2.2.2.2)))), (i.1, (i.2.1, i.2.2)))))
     (found := fun j x y => Sum.inl ((([] : List TyD), (([] : List Int), (4 : Int))), ((f.1, (f.2.1, (f.2.2.1, (f.2.2.2.1, f.2.2.2.2)))), (i.1, (i.2.1, i.2.2)))))
     (e := Sum.inr (((pk : Int), (s, (out, ((s.length - inn.length : Nat) : Int)))), ((f.1, (f.2.1, (f.2.2.1, (f.2.2.2.1, f.2.2.2.2)))), (i.1, (i.2.1, i.2.2)))))
     (fun j x y hx hy => by
      have hjl := zai hx
      show qbp_B0 n (pk : Int) s inn out ((s.length - inn.length : Nat) : Int) (j : Int) f.1 f.2.1 f.2.2.1 f.2.2.2.1 f.2.2.2.2 i.1 i.2.1 i.2.2 = _
      unfold qbp_B0
      have ha : addI .i64 ((s.length - inn.length : Nat) : Int) (j : Int) = ((s.length - inn.length + j : Nat) : Int) := by rw [zaf (by omega) (by omega)]; omega
      rw [zb, decide_eq_true (by omega), cond_true, ha, ze, hy, Option.bind_some, ze, hx, Option.bind_some, zjk n y x, Option.bind_some, zg (by omega)]
      cases subV y x <;> rfl)
     (by
      show qbp_B0 n (pk : Int) s inn out ((s.length - inn.length : Nat) : Int) (inn.length : Int) f.1 f.2.1 f.2.2.1 f.2.2.2.1 f.2.2.2.2 i.1 i.2.1 i.2.2 = _
      unfold qbp_B0
      rw [zb, decide_eq_false (by omega), cond_false]) n (by omega)
    rcases hL with ⟨ht, hW⟩ | ⟨ht, j, x, y, hW⟩
    ·rw [show qbp_W0 n (((pk : Int), (s, (inn, (out, (((s.length - inn.length : Nat) : Int), 0))))), ((f.1, (f.2.1, (f.2.2.1, (f.2.2.2.1, f.2.2.2.2)))), (i.1, (i.2.1, i.2.2)))) = _ from hW, Option.bind_some]
     simp only
     rw [if_neg (by rw [ht]; simp; omega)]
     have htake : (decide ((0 : Int) ≤ ((s.length - inn.length : Nat) : Int)) && decide (((s.length - inn.length : Nat) : Int) ≤ ((s.length : Nat) : Int))) = true := by
      rw [decide_eq_true (by omega), decide_eq_true (by omega)]; rfl
     rw [htake, Int.toNat_natCast, zo (by rw [List.length_take]; omega), zo (by rw [List.length_append, List.length_take]; omega)]
     simp only [cond_true]
     unfold nextV
     by_cases e26 : i.1 = 26
     ·rw [e26]; rfl
     ·rw [show (i.1 == 26) = false from beq_eq_false_iff_ne.2 e26, cond_false, if_neg e26]
      by_cases e23 : i.1 = 23
      ·rw [show (i.1 == 23) = true from beq_iff_eq.2 e23, cond_true, if_pos e23, if_neg (by omega)]
      ·rw [show (i.1 == 23) = false from beq_eq_false_iff_ne.2 e23, cond_false, if_neg e23, zaf (by omega) (by omega), zb]
       by_cases h5 : (pk : Int) + 1 ≥ (f.2.2.2.2.length : Int)
       ·rw [decide_eq_true h5, cond_true, if_pos ⟨e26, e23, h5⟩]
       ·rw [decide_eq_false h5, cond_false, if_neg (by omega)]
        by_cases e24 : i.1 = 24
        ·rw [show (i.1 == 24) = true from beq_iff_eq.2 e24, cond_true, if_pos e24]
        ·rw [show (i.1 == 24) = false from beq_eq_false_iff_ne.2 e24, cond_false, if_neg e24]
    ·rw [show qbp_W0 n (((pk : Int), (s, (inn, (out, (((s.length - inn.length : Nat) : Int), 0))))), ((f.1, (f.2.1, (f.2.2.1, (f.2.2.2.1, f.2.2.2.2)))), (i.1, (i.2.1, i.2.2)))) = _ from hW, Option.bind_some, if_pos (.inr (.inr ht))]
end Sx
end
section
/- What an instruction of a module that hangs together takes and puts; what it does to a stack's types. -/
set_option linter.unusedVariables false
set_option linter.unusedSimpArgs false
namespace Sx
open Go Go.Ab
theorem znA {m : ModD} (h : fitsV m = true) : m.recs.length ≤ 8 ∧ ∀ l ∈ m.recs, l.length ≤ 6 := by
 simp only [fitsV, Bool.and_eq_true, decide_eq_true_eq, List.all_eq_true] at h
 exact ⟨h.1, fun l hl => by have := zaI (h.2.1 l hl); omega⟩
theorem zaK {m : ModD} (h : checkV m = 0) : fitsV m = true ∧ ∀ f ∈ m.funcs, badF m f = false := by
 unfold checkV at h
 cases hf : fitsV m with
 | false => rw [if_pos hf] at h; cases h
 | true =>
  rw [if_neg (by rw [hf]; simp)] at h
  refine ⟨rfl, fun f hm => ?_⟩
  cases ha : m.funcs.any (badF m) with
  | true => rw [if_pos ha] at h; cases h
  | false => simpa using List.any_eq_false.1 ha f hm
theorem zdc {m : ModD} (h : checkV m = 0) {f : FnD} (hf : f ∈ m.funcs) {i : InD} (hi : i ∈ f.2.2.2.2) : namedV m f i = true := by
 have := (zaK h).2 f hf
 unfold badF at this
 rw [Bool.or_eq_false_iff] at this
 simpa using List.any_eq_false.1 this.1 i hi
theorem zbQ {α : Type} {l : List α} {x : Int} (h0 : 0 ≤ x) (h : x < (l.length : Int)) : ∃ a, getI l x = some a ∧ a ∈ l := by
 obtain ⟨k, rfl⟩ : ∃ k : Nat, x = (k : Int) := ⟨x.toNat, by omega⟩
 exact ⟨l[k]'(by omega), by rw [ze, List.getElem?_eq_getElem], List.getElem_mem _⟩
theorem znD (n : Nat) (m : ModD) (f : FnD) (i : InD) (s : List TyD) (hc : checkV m = 0) (hf : f ∈ m.funcs) (hi : i ∈ f.2.2.2.2) (hs : s.length ≤ 200) :
  ∃ r, qbo n m.recs m.funcs m.imps m.ints m.texts f.1 f.2.1 f.2.2.1 f.2.2.2.1 f.2.2.2.2 i.1 i.2.1 i.2.2 s = some r ∧ r.1.length ≤ 200 ∧ r.2.1.length ≤ 200 := by
 obtain ⟨hF, hB⟩ := zaK hc
 obtain ⟨k1, k2, k3, k4, k5⟩ := zaq hF
 obtain ⟨q1, q2⟩ := znA hF
 have hN := zdc hc hf hi
 have hb := (k4 f hf).1 i hi
 have hfl := k4 f hf
 have hr := zes hb
 unfold badI at hb
 have hb := of_decide_eq_false hb
 have ha := zdb (op := i.1) (by omega)
 obtain ⟨op, x, y⟩ := i
 simp only at hr
 have hk : op = 0 ∨ op = 1 ∨ op = 2 ∨ op = 3 ∨ op = 4 ∨ op = 5 ∨ op = 6 ∨ op = 7 ∨ op = 8 ∨ op = 9 ∨ op = 10 ∨ op = 11 ∨ op = 12 ∨ op = 13 ∨ op = 14 ∨ op = 15 ∨ op = 16 ∨ op = 17 ∨ op = 18 ∨ op = 19 ∨ op = 20 ∨ op = 21 ∨ op = 22 ∨ op = 23 ∨ op = 24 ∨ op = 25 ∨ op = 26 ∨ op = 27 ∨ op = 28 ∨ op = 29 ∨ op = 30 ∨ op = 31 ∨ op = 32 ∨ op = 33 ∨ op = 34 ∨ op = 35 ∨ op = 36 ∨ op = 37 ∨ op = 38 ∨ op = 39 ∨ op = 40 ∨ op = 41 := by simp only at ha; omega
 rcases hk with rfl | rfl | rfl | rfl | rfl | rfl | rfl | rfl | rfl | rfl | rfl | rfl | rfl | rfl | rfl | rfl | rfl | rfl | rfl | rfl | rfl | rfl | rfl | rfl | rfl | rfl | rfl | rfl | rfl | rfl | rfl | rfl | rfl | rfl | rfl | rfl | rfl | rfl | rfl | rfl | rfl | rfl
 ·exact ⟨_, rfl, by simp, by simp⟩
 ·exact ⟨_, rfl, by simp, by simp⟩
 ·exact ⟨_, rfl, by simp, by simp⟩
 ·simp only [qbo, Int.reduceBEq, cond_false, cond_true, zbK n f.1 f.2.1 f.2.2.1 f.2.2.2.1 f.2.2.2.2 x (by omega), Option.bind_some]
  exact ⟨_, rfl, by simp, by simp⟩
 ·simp only [qbo, Int.reduceBEq, cond_false, cond_true, zbK n f.1 f.2.1 f.2.2.1 f.2.2.2.1 f.2.2.2.2 x (by omega), Option.bind_some]
  exact ⟨_, rfl, by simp, by simp⟩
 ·exact ⟨_, rfl, by simp, by simp⟩
 ·simp only [qbo, Int.reduceBEq, cond_false, cond_true]
  by_cases h : 1 ≤ s.length
  ·obtain ⟨r, t, rfl⟩ := zbO h
   rw [List.length_append, List.length_singleton] at hs
   have hg : getI (r ++ [t]) (subI .i64 (lenI (r ++ [t])) 1) = some t := zC r [t] 1 0 (by simp; omega) rfl (by omega) (by simp)
   have hsub : subI .i64 (lenI (r ++ [t])) 1 = ((r.length : Nat) : Int) := by
    rw [zb, List.length_append, zA (by simp <;> omega) (by simp <;> omega)]; simp
   rw [hg, hsub, zb, List.length_append, List.length_singleton, decide_eq_false (by omega), decide_eq_true (by omega), decide_eq_true (by omega)]
   simp only [cond_true, cond_false, Option.bind_some, Bool.and_self, Int.toNat_natCast]
   rw [List.take_of_length_le (by simp), List.drop_left]
   exact ⟨_, rfl, by simp, by simp⟩
  ·rw [zb, decide_eq_true (by omega)]
   exact ⟨_, rfl, by simp, by simp⟩
 ·simp only [qbo, Int.reduceBEq, cond_false, cond_true]
  by_cases h : 2 ≤ s.length
  ·obtain ⟨r, t, u, rfl⟩ := zhr h
   rw [List.length_append] at hs
   simp only [List.length_cons, List.length_nil] at hs
   have hg1 : getI (r ++ [t, u]) (subI .i64 (lenI (r ++ [t, u])) 1) = some u := zC r [t, u] 1 1 (by simp; omega) rfl (by omega) (by simp)
   have hg2 : getI (r ++ [t, u]) (subI .i64 (lenI (r ++ [t, u])) 2) = some t := zC r [t, u] 2 0 (by simp; omega) rfl (by omega) (by simp)
   have hsub : subI .i64 (lenI (r ++ [t, u])) 2 = ((r.length : Nat) : Int) := by
    rw [zb, List.length_append, zA (by simp <;> omega) (by simp <;> omega)]; simp
   rw [hg1, hg2, hsub, zb, List.length_append]
   simp only [List.length_cons, List.length_nil]
   rw [decide_eq_false (by omega), decide_eq_true (by omega), decide_eq_true (by omega)]
   simp only [cond_true, cond_false, Option.bind_some, Bool.and_self, Int.toNat_natCast]
   rw [List.take_of_length_le (by simp), List.drop_left]
   exact ⟨_, rfl, by simp, by simp⟩
  ·rw [zb, decide_eq_true (by omega)]
   exact ⟨_, rfl, by simp, by simp⟩
 ·exact ⟨_, rfl, by simp, by simp⟩
 ·exact ⟨_, rfl, by simp, by simp⟩
 ·exact ⟨_, rfl, by simp, by simp⟩
 ·exact ⟨_, rfl, by simp, by simp⟩
 ·exact ⟨_, rfl, by simp, by simp⟩
 ·exact ⟨_, rfl, by simp, by simp⟩
 ·exact ⟨_, rfl, by simp, by simp⟩
 ·exact ⟨_, rfl, by simp, by simp⟩
 ·exact ⟨_, rfl, by simp, by simp⟩
 ·exact ⟨_, rfl, by simp, by simp⟩
 ·exact ⟨_, rfl, by simp, by simp⟩
 ·exact ⟨_, rfl, by simp, by simp⟩
 ·exact ⟨_, rfl, by simp, by simp⟩
 ·exact ⟨_, rfl, by simp, by simp⟩
 ·exact ⟨_, rfl, by simp, by simp⟩
 ·exact ⟨_, rfl, by simp, by simp⟩
 ·exact ⟨_, rfl, by simp, by simp⟩
 ·have hlt : x < (m.funcs.length : Int) := of_decide_eq_true (show decide (x < lenI m.funcs) = true from hN)
  obtain ⟨a, e, hm⟩ := zbQ hr.1 hlt
  simp only [qbo, Int.reduceBEq, cond_false, cond_true, e, Option.bind_some]
  exact ⟨_, rfl, by have := (k4 a hm).2.2.2.2; simp only; omega, by simp⟩
 ·exact ⟨_, rfl, by simp, by simp⟩
 ·have hlt : x < (m.imps.length : Int) := of_decide_eq_true (show decide (x < lenI m.imps) = true from hN)
  obtain ⟨a, e, hm⟩ := zbQ hr.1 hlt
  simp only [qbo, Int.reduceBEq, cond_false, cond_true, e, Option.bind_some]
  exact ⟨_, rfl, by have := k5 a hm; simp only; omega, by simp⟩
 ·have hlt : x < (m.recs.length : Int) := of_decide_eq_true (show decide (x < lenI m.recs) = true from hN)
  obtain ⟨a, e, hm⟩ := zbQ hr.1 hlt
  simp only [qbo, Int.reduceBEq, cond_false, cond_true, e, Option.bind_some]
  exact ⟨_, rfl, by have := q2 a hm; simp only; omega, by simp⟩
 ·have hN : (bif decide (x < lenI m.recs) then (getI m.recs x).bind fun l => some (decide (y < lenI l)) else some false).getD false = true := hN
  by_cases hlt : x < (m.recs.length : Int)
  ·rw [zb, decide_eq_true hlt, cond_true] at hN
   obtain ⟨a, e, hm⟩ := zbQ hr.1 hlt
   rw [e] at hN
   have hy : y < (a.length : Int) := of_decide_eq_true hN
   obtain ⟨b, e2, _⟩ := zbQ hr.2.2.1 hy
   simp only [qbo, Int.reduceBEq, cond_false, cond_true, e, e2, Option.bind_some]
   exact ⟨_, rfl, by simp, by simp⟩
  ·rw [zb, decide_eq_false hlt] at hN; cases hN
 ·have hN : (bif decide (x < lenI m.recs) then (getI m.recs x).bind fun l => some (decide (y < lenI l)) else some false).getD false = true := hN
  by_cases hlt : x < (m.recs.length : Int)
  ·rw [zb, decide_eq_true hlt, cond_true] at hN
   obtain ⟨a, e, hm⟩ := zbQ hr.1 hlt
   rw [e] at hN
   have hy : y < (a.length : Int) := of_decide_eq_true hN
   obtain ⟨b, e2, _⟩ := zbQ hr.2.2.1 hy
   simp only [qbo, Int.reduceBEq, cond_false, cond_true, e, e2, Option.bind_some]
   exact ⟨_, rfl, by simp, by simp⟩
  ·rw [zb, decide_eq_false hlt] at hN; cases hN
 ·exact ⟨_, rfl, by simp, by simp⟩
 ·exact ⟨_, rfl, by simp, by simp⟩
 ·exact ⟨_, rfl, by simp, by simp⟩
 ·exact ⟨_, rfl, by simp, by simp⟩
 ·exact ⟨_, rfl, by simp, by simp⟩
 ·exact ⟨_, rfl, by simp, by simp⟩
 ·exact ⟨_, rfl, by simp, by simp⟩
 ·exact ⟨_, rfl, by simp, by simp⟩
 ·exact ⟨_, rfl, by simp, by simp⟩
 ·exact ⟨_, rfl, by simp, by simp⟩
 ·simp only [qbo, Int.reduceBEq, cond_false, cond_true]
  by_cases h : 1 ≤ s.length
  ·obtain ⟨r, t, rfl⟩ := zbO h
   rw [List.length_append, List.length_singleton] at hs
   have hg : getI (r ++ [t]) (subI .i64 (lenI (r ++ [t])) 1) = some t := zC r [t] 1 0 (by simp; omega) rfl (by omega) (by simp)
   have hsub : subI .i64 (lenI (r ++ [t])) 1 = ((r.length : Nat) : Int) := by
    rw [zb, List.length_append, zA (by simp <;> omega) (by simp <;> omega)]; simp
   rw [hg, hsub, zb, List.length_append, List.length_singleton, decide_eq_false (by omega), decide_eq_true (by omega), decide_eq_true (by omega)]
   simp only [cond_true, cond_false, Option.bind_some, Bool.and_self, Int.toNat_natCast]
   rw [List.take_of_length_le (by simp), List.drop_left]
   cases t.1 != 5 <;> exact ⟨_, rfl, by simp, by simp⟩
  ·rw [zb, decide_eq_true (by omega)]
   exact ⟨_, rfl, by simp, by simp⟩
theorem zjs (n : Nat) (m : ModD) (fk pk : Nat) (f : FnD) (i : InD) (s : List TyD) (hc : checkV m = 0) (hf : m.funcs[fk]? = some f) (hi : f.2.2.2.2[pk]? = some i) (hs : s.length ≤ 200) (hn : 1000 ≤ n) :
  ∃ r, qbo n m.recs m.funcs m.imps m.ints m.texts f.1 f.2.1 f.2.2.1 f.2.2.2.1 f.2.2.2.2 i.1 i.2.1 i.2.2 s = some r ∧ r.1.length ≤ 200 ∧ r.2.1.length ≤ 200 ∧
   qcl n m.recs m.funcs m.imps m.ints m.texts (fk : Int) (pk : Int) s = some (stepV f i (pk : Int) s r) ∧ qbp n m.recs m.funcs m.imps m.ints m.texts (fk : Int) (pk : Int) s = some (stepV f i (pk : Int) s r) := by
 have hfm := List.mem_of_getElem? hf
 have him := List.mem_of_getElem? hi
 obtain ⟨hF, hB⟩ := zaK hc
 obtain ⟨k1, k2, k3, k4, k5⟩ := zaq hF
 have hfl := k4 f hfm
 have hpk := zai hi
 obtain ⟨r, hr, l1, l2⟩ := znD n m f i s hc hfm him hs
 refine ⟨r, hr, l1, l2, qcl_eq n m fk pk f i s r hf hi (hfl.1 i him) (by omega) hr hs l1 l2 (by omega) (by omega) (fun h => ?_) hn, zmg n m fk pk f i s r hf hi hr hs l1 l2 (by omega) (by omega) hn⟩
 have hN := zdc hc hfm him
 obtain ⟨op, x, y⟩ := i
 simp only at h
 subst h
 exact of_decide_eq_true (show decide (x < lenI f.2.2.2.2) = true from hN)
end Sx
end
section
/- The statements on what an instruction does, and on heights. -/
set_option linter.unusedVariables false
set_option linter.unusedSimpArgs false
namespace Sx
open Go Go.Ab
def eqT (x y : TyD) : Bool := (x.1 == y.1) && (x.2 == y.2)
theorem zov (x : TyD) : eqT x x = true := by simp [eqT]
theorem ziE (n : Nat) (a b : List TyD) (ha : a.length ≤ 5000) (hn : 6000 ≤ n) : qat n a b = some (eqL eqT a b) := by
 unfold qat eqL
 rw [lenNe]
 by_cases hl : a.length = b.length
 ·rw [decide_eq_true hl, Bool.not_true, cond_false, Bool.true_and]
  have h := loop_two (B := fun s => qat_B0 n s.1 s.2.1 s.2.2) (mk := fun (i : Nat) => (a, (b, (i : Int)))) (p := eqT) (found := fun i x y => Sum.inl false) (e := Sum.inr ()) hl (fun i x y hx hy => ?_) ?_ n (by omega)
  ·rcases h with ⟨h1, h2⟩ | ⟨h1, i, x, y, h2⟩
   ·rw [show qat_W0 n (a, (b, 0)) = _ from h2, h1]; rfl
   ·rw [show qat_W0 n (a, (b, 0)) = _ from h2, h1]; rfl
  ·have hi := zai hx
   show qat_B0 n a b (i : Int) = _
   unfold qat_B0
   rw [zb, decide_eq_true (by omega), cond_true, ze, hx, Option.bind_some, ze, hy, Option.bind_some, zg (by omega)]
   show (bif !eqT x y then _ else _) = _
   cases eqT x y <;> rfl
  ·show qat_B0 n a b (a.length : Int) = _
   unfold qat_B0
   rw [zb, decide_eq_false (by omega), cond_false]
 ·rw [decide_eq_false hl]; rfl
theorem zbW (n : Nat) (a : List TyD) (ha : a.length ≤ 5000) (hn : 6000 ≤ n) : qat n a a = some true := by
 rw [ziE n a a ha hn, zle a fun x _ => zov x]
def thereV (m : ModD) (f pc : Int) : Prop := checkV m = 0 ∧ ∃ (fk pk : Nat) (fn : FnD) (i : InD), f = (fk : Int) ∧ pc = (pk : Int) ∧ m.funcs[fk]? = some fn ∧ fn.2.2.2.2[pk]? = some i
theorem zcE (n : Nat) (m : ModD) (ho : OkM m) (fk pk : Nat) (fn : FnD) (i : InD) (s : List TyD) (hc : checkV m = 0) (hf : m.funcs[fk]? = some fn) (hi : fn.2.2.2.2[pk]? = some i) (hs : s.length ≤ 200) (hn : 1000 ≤ n) :
  ∃ r, qbo n m.recs m.funcs m.imps m.ints m.texts fn.1 fn.2.1 fn.2.2.1 fn.2.2.2.1 fn.2.2.2.2 i.1 i.2.1 i.2.2 s = some r ∧ r.1.length ≤ 200 ∧ r.2.1.length ≤ 200 ∧
   qcd n m.recs m.funcs m.imps m.ints m.texts (fk : Int) (pk : Int) s = some (stepV fn i (pk : Int) s r) ∧ qbp n m.recs m.funcs m.imps m.ints m.texts (fk : Int) (pk : Int) s = some (stepV fn i (pk : Int) s r) := by
 obtain ⟨r, hr, l1, l2, e1, e2⟩ := zjs n m fk pk fn i s hc hf hi hs hn
 refine ⟨r, hr, l1, l2, ?_, e2⟩
 have hfl := zai hf
 have hil := zai hi
 unfold qcd
 rw [zix n m ho (by omega), hc, Option.bind_some, show ((0 : Int) != 0) = false from rfl, cond_false, decide_eq_false (by omega), cond_false, zb, decide_eq_false (by omega), cond_false, decide_eq_false (by omega), cond_false, ze, hf,
  Option.bind_some, zb, decide_eq_false (by omega), cond_false, e1]
 rfl
theorem zeY (n : Nat) (m : ModD) (ho : OkM m) (f pc : Int) (s : List TyD) (h : ¬ thereV m f pc) (hn : 1000 ≤ n) : qcd n m.recs m.funcs m.imps m.ints m.texts f pc s = some ([], [], 1) := by
 unfold qcd
 rw [zix n m ho (by omega), Option.bind_some]
 by_cases hc : checkV m = 0
 ·rw [hc, show ((0 : Int) != 0) = false from rfl, cond_false]
  by_cases h1 : f < 0
  ·rw [decide_eq_true h1]; rfl
  ·rw [decide_eq_false h1, cond_false, zb]
   by_cases h2 : f ≥ (m.funcs.length : Int)
   ·rw [decide_eq_true h2]; rfl
   ·rw [decide_eq_false h2, cond_false]
    by_cases h3 : pc < 0
    ·rw [decide_eq_true h3]; rfl
    ·rw [decide_eq_false h3, cond_false]
     obtain ⟨fk, rfl⟩ : ∃ fk : Nat, f = (fk : Int) := ⟨f.toNat, by omega⟩
     have hlt : fk < m.funcs.length := by omega
     have hg : m.funcs[fk]? = some m.funcs[fk] := List.getElem?_eq_getElem hlt
     rw [ze, hg, Option.bind_some, zb]
     by_cases h4 : pc ≥ ((m.funcs[fk].2.2.2.2).length : Int)
     ·rw [decide_eq_true h4]; rfl
     ·exfalso
      obtain ⟨pk, rfl⟩ : ∃ pk : Nat, pc = (pk : Int) := ⟨pc.toNat, by omega⟩
      exact h ⟨hc, fk, pk, _, m.funcs[fk].2.2.2.2[pk]'(by omega), rfl, rfl, hg, List.getElem?_eq_getElem _⟩
 ·rw [show (checkV m != 0) = true from bne_iff_ne.2 hc]; rfl
theorem zoq (n : Nat) (a : List Int) (ha : a.length ≤ 1000) (hn : 2000 ≤ n) : law08FlowSteps_W0 n (a, (a, 0)) = some (Sum.inr ()) := by
 have h := loop_two (xs := a) (ys := a) (B := fun s => law08FlowSteps_B0 n s.1 s.2.1 s.2.2) (mk := fun (i : Nat) => (a, (a, (i : Int)))) (p := fun x y : Int => x == y) (found := fun i x y => Sum.inl false) (e := Sum.inr ()) rfl (fun i x y hx hy => ?_) ?_ n (by omega)
 ·rcases h with ⟨h1, h2⟩ | ⟨h1, i, x, y, h2⟩
  ·exact h2
  ·exfalso
   rw [List.all_eq_false] at h1
   obtain ⟨q, hq, hne⟩ := h1
   obtain ⟨j, hj, rfl⟩ := List.getElem_of_mem hq
   rw [List.getElem_zip] at hne
   simp at hne
 ·have hi := zai hx
  show law08FlowSteps_B0 n a a (i : Int) = _
  unfold law08FlowSteps_B0
  obtain rfl := Option.some.inj (hx.symm.trans hy)
  rw [zb, decide_eq_true (by omega), cond_true, ze, hx, Option.bind_some, Option.bind_some, zg (by omega)]
  simp
 ·show law08FlowSteps_B0 n a a (a.length : Int) = _
  unfold law08FlowSteps_B0
  rw [zb, decide_eq_false (by omega), cond_false]
theorem zfz {f : FnD} {i : InD} {pc : Int} {s : List TyD} {r : List TyD × List TyD × Bool} (hs : s.length ≤ 200) (h2 : r.2.1.length ≤ 200) : (stepV f i pc s r).1.length ≤ 400 ∧ (stepV f i pc s r).2.1.length ≤ 2 := by
 unfold stepV
 split
 ·simp
 ·split
  ·simp
  ·refine ⟨by simp only [List.length_append, List.length_take]; omega, ?_⟩
   unfold nextV
   simp only
   split
   ·simp
   ·split
    ·simp
    ·split <;> simp
theorem zms (m : ModD) (ho : OkM m) (hl : LenM m) (f pc : Int) (s : List TyD) : law08FlowSteps 10000 m.recs m.funcs m.imps m.ints m.texts f pc s = some true := by
 unfold law08FlowSteps
 obtain ⟨x, e, hL⟩ := zbT 10000 m hl (by omega)
 rw [e, Option.bind_some, answers8, zb]
 cases x with
 | false => rfl
 | true =>
  simp only [Bool.not_true, cond_false, Option.bind_some]
  by_cases h20 : (s.length : Int) > 20
  ·rw [decide_eq_true h20]; rfl
  ·rw [decide_eq_false h20, cond_false, zo (by omega), cond_true, zbW 10000 s (by omega) (by omega), zfY 10000 m ho (hL rfl) (by omega)]
   by_cases ht : thereV m f pc
   ·obtain ⟨hc, fk, pk, fn, i, rfl, rfl, hf, hi⟩ := ht
    obtain ⟨r, hr, l1, l2, e1, e2⟩ := zcE 10000 m ho fk pk fn i s hc hf hi (by omega) (by omega)
    have hfl := zai hf
    have hil := zai hi
    have hlen := zfz (f := fn) (i := i) (pc := (pk : Int)) (s := s) (r := r) (by omega) l2
    rw [e1, e2]
    generalize stepV fn i (pk : Int) s r = R at hlen ⊢
    simp only [Option.bind_some, Bool.not_true, cond_false]
    rw [hc, show ((0 : Int) != 0) = false from rfl, cond_false, decide_eq_false (by omega), cond_false, zb, decide_eq_false (by omega), cond_false, decide_eq_false (by omega), cond_false, ze, hf, Option.bind_some, zb,
     decide_eq_false (by omega), cond_false, show (R.2.2 != R.2.2) = false from by simp, cond_false, zbW 10000 R.1 (by omega) (by omega)]
    simp only [Option.bind_some, Bool.not_true, cond_false]
    rw [show (lenI R.2.1 != lenI R.2.1) = false from by simp, cond_false, zoq 10000 R.2.1 (by omega) (by omega)]
    rfl
   ·rw [zeY 10000 m ho f pc s ht (by omega)]
    simp only [Option.bind_some, Bool.not_true, cond_false]
    by_cases hc : checkV m = 0
    ·rw [hc, show ((0 : Int) != 0) = false from rfl, cond_false]
     by_cases h1 : f < 0
     ·rw [decide_eq_true h1]; rfl
     ·rw [decide_eq_false h1, cond_false, zb]
      by_cases h2 : f ≥ (m.funcs.length : Int)
      ·rw [decide_eq_true h2]; rfl
      ·rw [decide_eq_false h2, cond_false]
       by_cases h3 : pc < 0
       ·rw [decide_eq_true h3]; rfl
       ·rw [decide_eq_false h3, cond_false]
        obtain ⟨fk, rfl⟩ : ∃ fk : Nat, f = (fk : Int) := ⟨f.toNat, by omega⟩
        have hlt : fk < m.funcs.length := by omega
        have hg : m.funcs[fk]? = some m.funcs[fk] := List.getElem?_eq_getElem hlt
        rw [ze, hg, Option.bind_some, zb]
        by_cases h4 : pc ≥ ((m.funcs[fk].2.2.2.2).length : Int)
        ·rw [decide_eq_true h4]; rfl
        ·exfalso
         obtain ⟨pk, rfl⟩ : ∃ pk : Nat, pc = (pk : Int) := ⟨pc.toNat, by omega⟩
         exact ht ⟨hc, fk, pk, _, m.funcs[fk].2.2.2.2[pk]'(by omega), rfl, rfl, hg, List.getElem?_eq_getElem _⟩
    ·rw [show (checkV m != 0) = true from bne_iff_ne.2 hc]; rfl
theorem zjQ (m : ModD) (ho : OkM m) (hl : LenM m) (f pc : Int) (s : List TyD) : law08FlowHeights 10000 m.recs m.funcs m.imps m.ints m.texts f pc s = some true := by
 unfold law08FlowHeights
 obtain ⟨x, e, hL⟩ := zbT 10000 m hl (by omega)
 rw [e, Option.bind_some, answers8, zb]
 cases x with
 | false => rfl
 | true =>
  simp only [Bool.not_true, cond_false, Option.bind_some]
  by_cases h20 : (s.length : Int) > 20
  ·rw [decide_eq_true h20]; rfl
  ·rw [decide_eq_false h20, cond_false]
   by_cases ht : thereV m f pc
   ·obtain ⟨hc, fk, pk, fn, i, rfl, rfl, hf, hi⟩ := ht
    obtain ⟨r, hr, l1, l2, e1, e2⟩ := zcE 10000 m ho fk pk fn i s hc hf hi (by omega) (by omega)
    rw [e1]
    simp only [Option.bind_some]
    rw [ze, hf, Option.bind_some, Option.bind_some, ze, hi, Option.bind_some, hr, Option.bind_some]
    by_cases h0 : (stepV fn i (pk : Int) s r).2.2 = 0
    ·rw [h0, show ((0 : Int) != 0) = false from rfl, cond_false]
     unfold stepV at h0 ⊢
     by_cases h1 : r.2.2 = false ∨ s.length < r.1.length ∨ s.length - r.1.length + r.2.1.length > 8 ∨ takesV s r.1 = false
     ·rw [if_pos h1] at h0; cases h0
     ·rw [if_neg h1] at h0 ⊢
      by_cases h2 : i.1 ≠ 26 ∧ i.1 ≠ 23 ∧ (pk : Int) + 1 ≥ (fn.2.2.2.2.length : Int)
      ·rw [if_pos h2] at h0; cases h0
      ·rw [if_neg h2]
       simp only
       have hle : r.1.length ≤ s.length := by
        rcases Nat.lt_or_ge s.length r.1.length with h | h
        ·exact absurd (.inr (.inl h)) h1
        ·exact h
       have h8 : s.length - r.1.length + r.2.1.length ≤ 8 := by
        rcases Nat.lt_or_ge 8 (s.length - r.1.length + r.2.1.length) with h | h
        ·exact absurd (.inr (.inr (.inl h))) h1
        ·exact h
       have hsub : subI .i64 (s.length : Int) (r.1.length : Int) = ((s.length - r.1.length : Nat) : Int) := by rw [zA (by omega) (by omega)]; omega
       have htk : (s.take (s.length - r.1.length) ++ r.2.1).take (s.length - r.1.length) = s.take (s.length - r.1.length) := by
        rw [List.take_append_of_le_length (by rw [List.length_take]; omega), List.take_take, Nat.min_self]
       rw [zb, zb, zb, List.length_append, List.length_take, hsub, zaf (by omega) (by omega), decide_eq_true (by omega), cond_true, Int.toNat_natCast, htk, zbW 10000 _ (by rw [List.length_take]; omega) (by omega)]
       rw [show ((((min (s.length - r.1.length) s.length + r.2.1.length : Nat) : Int)) == ((s.length - r.1.length : Nat) : Int) + (r.2.1.length : Int)) = true from beq_iff_eq.2 (by omega)]
       simp only [cond_true, Option.bind_some]
       rw [decide_eq_true (by omega), decide_eq_true (by omega), decide_eq_true (by omega)]
       rfl
    ·rw [show ((stepV fn i (pk : Int) s r).2.2 != 0) = true from bne_iff_ne.2 h0]; rfl
   ·rw [zeY 10000 m ho f pc s ht (by omega)]
    rfl
end Sx
end
section
/- The plain laws at the rows' own data. -/
set_option linter.unusedVariables false
namespace Sx
open Go Go.Ab
abbrev tysT : Ty := .sl true tyT
abbrev fnT : Ty := .cons tysT (.cons (.int .i64) (.cons (.int .i64) (.cons tysT (.sl true inT))))
abbrev imT : Ty := .cons tysT (.cons (.int .i64) (.int .i64))
def shM : Sh := .agg (.cons (.sl true false tysT) (.cons (.sl true true fnT) (.cons (.sl true true imT) (.cons (.sl true false (.int .u64)) (.cons (.sl true false .str) .nil)))))
abbrev MTup := List (List TyD) × List FnD × List ImD × List Int × List ByteArray
def modOf (d : MTup) : ModD := ⟨d.1, d.2.1, d.2.2.1, d.2.2.2.1, d.2.2.2.2⟩
theorem zpa {t : TyD} (h : Fit tyT t) : okT t := ⟨zfB h.1, zfB h.2⟩
theorem zbh {l : List TyD} (h : Fit tysT l) : okTs l ∧ l.length ≤ 140737488351232 := ⟨fun t ht => zpa (h.2 t ht), h.1⟩
theorem zbP {d : MTup} (h : FitS shM d) : OkM (modOf d) ∧ LenM (modOf d) := by
 obtain ⟨h1, h2, h3, h4, h5, _⟩ : Fit (.sl false tysT) d.1 ∧ Fit (.sl true fnT) d.2.1 ∧ Fit (.sl true imT) d.2.2.1 ∧ Fit (.sl false (.int .u64)) d.2.2.2.1 ∧ Fit (.sl false .str) d.2.2.2.2 ∧ True := h
 obtain ⟨l1, e1⟩ := h1
 obtain ⟨l2, e2⟩ := h2
 obtain ⟨l3, e3⟩ := h3
 obtain ⟨l4, e4⟩ := h4
 obtain ⟨l5, e5⟩ := h5
 have f2 : ∀ f ∈ d.2.1, Fit tysT f.1 ∧ Fit (.int .i64) f.2.1 ∧ Fit (.int .i64) f.2.2.1 ∧ Fit tysT f.2.2.2.1 ∧ f.2.2.2.2.length ≤ reachBytes := fun f hf => by
  obtain ⟨a1, a2, a3, a4, a5⟩ := e2 f hf
  exact ⟨a1, a2, a3, a4, a5.1⟩
 have f3 : ∀ f ∈ d.2.2.1, Fit tysT f.1 ∧ Fit (.int .i64) f.2.1 ∧ Fit (.int .i64) f.2.2 := e3
 refine ⟨⟨fun l hl => (zbh (e1 l hl)).1, fun f hf => ?_, fun f hf => ?_, fun v hv => zpk (e4 v hv)⟩, ⟨l1, l2, l3, l4, l5, fun l hl => (zbh (e1 l hl)).2, fun f hf => ?_, fun f hf => ?_, e5⟩⟩
 ·obtain ⟨a1, a2, a3, a4, a5⟩ := f2 f hf
  exact ⟨(zbh a1).1, ⟨zfB a2, zfB a3⟩, (zbh a4).1⟩
 ·obtain ⟨a1, a2, a3⟩ := f3 f hf
  exact ⟨(zbh a1).1, ⟨zfB a2, zfB a3⟩⟩
 ·obtain ⟨a1, a2, a3, a4, a5⟩ := f2 f hf
  exact ⟨(zbh a1).2, (zbh a4).2, a5⟩
 ·exact (zbh (f3 f hf).1).2
abbrev SD := MTup × Int × Int × List TyD
theorem zkV (d : SD) (hf : FitS (.cons shM (.cons (.int .i64) (.cons (.int .i64) (.cons (.sl true true tyT) .nil)))) d) : ∃ n, law08FlowSteps n d.1.1 d.1.2.1 d.1.2.2.1 d.1.2.2.2.1 d.1.2.2.2.2 d.2.1 d.2.2.1 d.2.2.2 = some true := by
 obtain ⟨h1, _⟩ : FitS shM d.1 ∧ FitS (.cons (.int .i64) (.cons (.int .i64) (.cons (.sl true true tyT) .nil))) d.2 := hf
 exact ⟨10000, zms (modOf d.1) (zbP (d := d.1) h1).1 (zbP (d := d.1) h1).2 _ _ _⟩
theorem ziJ (d : SD) (hf : FitS (.cons shM (.cons (.int .i64) (.cons (.int .i64) (.cons (.sl true true tyT) .nil)))) d) : ∃ n, law08FlowHeights n d.1.1 d.1.2.1 d.1.2.2.1 d.1.2.2.2.1 d.1.2.2.2.2 d.2.1 d.2.2.1 d.2.2.2 = some true := by
 obtain ⟨h1, _⟩ : FitS shM d.1 ∧ FitS (.cons (.int .i64) (.cons (.int .i64) (.cons (.sl true true tyT) .nil))) d.2 := hf
 exact ⟨10000, zjQ (modOf d.1) (zbP (d := d.1) h1).1 (zbP (d := d.1) h1).2 _ _ _⟩
end Sx
end
