/- Numbers, types and instructions as bytes: what the printed functions come to. -/
import Derived.Test.YtmfemlkbeehioaaModRSh
import Derived.Test.YtmfemlkbeehioaaLib8
set_option linter.unusedVariables false
set_option linter.unusedSimpArgs false
namespace Sx
open Go Go.Ab
def varF : Nat → Nat → List Int
  | 0, v => [(v : Int)]
  | k + 1, v => if v < 128 then [(v : Int)] else ((128 + v % 128 : Nat) : Int) :: varF k (v / 128)
def varN (v : Nat) : List Int := varF 10 v
theorem varF_len : ∀ (k v : Nat), 1 ≤ (varF k v).length ∧ (varF k v).length ≤ k + 1
  | 0, v => ⟨Nat.le_refl _, Nat.le_refl _⟩
  | k + 1, v => by
    unfold varF
    split
    · exact ⟨by simp, by simp⟩
    · have := varF_len k (v / 128)
      rw [List.length_cons]; omega
theorem varN_len (v : Nat) : 1 ≤ (varN v).length ∧ (varN v).length ≤ 11 := varF_len 10 v
theorem varF_bytes : ∀ (k v : Nat), v < 128 ^ (k + 1) → ∀ x ∈ varF k v, 0 ≤ x ∧ x ≤ 255
  | 0, v, h, x, hx => by
    simp only [varF, List.mem_singleton] at hx
    omega
  | k + 1, v, h, x, hx => by
    unfold varF at hx
    split at hx
    · rw [List.mem_singleton.1 hx]; omega
    · rcases List.mem_cons.1 hx with rfl | hx
      · omega
      · exact varF_bytes k (v / 128) (by rw [Nat.pow_succ] at h; omega) x hx
theorem varN_bytes {v : Nat} (h : v < 18446744073709551616) : ∀ x ∈ varN v, 0 ≤ x ∧ x ≤ 255 := varF_bytes 10 v (by omega)
theorem or128 (v : Nat) : orI .u8 (cvtI .u8 (v : Int)) 128 = ((128 + v % 128 : Nat) : Int) := by
  rw [cvtI_u8_mod]
  have h : ∀ m : Nat, m < 256 → orI .u8 (m : Int) 128 = ((128 + m % 128 : Nat) : Int) := by decide +kernel
  have := h (v % 256) (by omega)
  rw [show ((v : Int) % 256) = ((v % 256 : Nat) : Int) by omega, this]
  omega
theorem shr7 (v : Nat) : shrI .u64 (v : Int) 7 = ((v / 128 : Nat) : Int) := by
  show (v : Int).fdiv (2 ^ (min (7 : Int).toNat 64)) = _
  rw [show ((2 : Int) ^ (min (7 : Int).toNat 64)) = 128 from rfl, Int.fdiv_eq_ediv_of_nonneg _ (by omega)]
  omega
theorem qcq_loop (n : Nat) : ∀ (k v m : Nat) (acc : List Int), v < 128 ^ (k + 1) → acc.length + k ≤ 4294967000 → k < m → ∃ r, loopS (fun s => qcq_B0 n s.1 s.2) m ((v : Int), acc) = some r ∧ 0 ≤ r.1 ∧ r.1 ≤ 127 ∧ r.2 ++ [r.1] = acc ++ varF k v ∧ r.2.length ≤ acc.length + k
  | 0, v, m + 1, acc, hv, ha, hm => by
    refine ⟨((v : Int), acc), loopS_out ?_, by omega, by simp only []; omega, rfl, by simp⟩
    show qcq_B0 n (v : Int) acc = _
    unfold qcq_B0
    rw [decide_eq_false (by omega), cond_false]
  | k + 1, v, m + 1, acc, hv, ha, hm => by
    by_cases h : v < 128
    · refine ⟨((v : Int), acc), loopS_out ?_, by omega, by simp only []; omega, by simp [varF, h], by simp⟩
      show qcq_B0 n (v : Int) acc = _
      unfold qcq_B0
      rw [decide_eq_false (by omega), cond_false]
    · have hb : qcq_B0 n (v : Int) acc = some (Sum.inl (((v / 128 : Nat) : Int), acc ++ [((128 + v % 128 : Nat) : Int)])) := by
        unfold qcq_B0
        rw [decide_eq_true (by omega), cond_true, or128, shr7, fits_le (by simp; omega), cond_true]
      rw [loopS_next (s := ((v : Int), acc)) hb]
      obtain ⟨r, h1, h2, h3, h4, h5⟩ := qcq_loop n k (v / 128) m (acc ++ [((128 + v % 128 : Nat) : Int)]) (by rw [Nat.pow_succ] at hv; omega) (by simp; omega) (by omega)
      refine ⟨r, h1, h2, h3, ?_, by simp at h5; omega⟩
      rw [h4, varF, if_neg h]
      simp
  | _, _, 0, _, _, _, hm => by omega
theorem qcq_eq (n v : Nat) (hv : v < 18446744073709551616) (hn : 20 ≤ n) : qcq n (v : Int) = some (varN v) := by
  unfold qcq
  obtain ⟨r, h1, h2, h3, h4, h5⟩ := qcq_loop n 10 v n [] (by omega) (by simp) (by omega)
  rw [show qcq_W0 n ((v : Int), []) = some r from h1, Option.bind_some, cvtI_u8 h2 (by omega), h4, fits_le (by have := varN_len v; simp [varN] at this; simp; omega), cond_true]
  rfl
theorem quo128 {v : Nat} (hv : v < 18446744073709551616) : quoI .u64 (v : Int) 128 = ((v / 128 : Nat) : Int) := by
  show IntKind.u64.wrap ((v : Int).tdiv 128) = _
  rw [Int.tdiv_eq_ediv_of_nonneg (by omega), wrapU64]
  omega
theorem refVar_d (n : Nat) : ∀ (k v d : Nat), v < 128 ^ (k + 1) → v < 18446744073709551616 → k < d → k ≤ 11 → qch_D n d (v : Int) = some (varF k v)
  | 0, v, d + 1, hv, h64, hd, hk => by
    show qch_S n (qch_D n d) (v : Int) = _
    unfold qch_S
    rw [decide_eq_true (by omega), cond_true, cvtI_u8 (by omega) (by omega)]; rfl
  | k + 1, v, d + 1, hv, h64, hd, hk => by
    show qch_S n (qch_D n d) (v : Int) = _
    unfold qch_S
    by_cases h : v < 128
    · rw [decide_eq_true (by omega), cond_true, cvtI_u8 (by omega) (by omega), varF, if_pos h]
    · have hl := varF_len k (v / 128)
      rw [decide_eq_false (by omega), cond_false, quo128 h64, refVar_d n k (v / 128) d (by rw [Nat.pow_succ] at hv; omega) (by omega) (by omega) (by omega), Option.bind_some, remI_nonneg (by omega)]
      have h1 : addI .u64 128 ((v : Int) % 128) = ((128 + v % 128 : Nat) : Int) := by
        show IntKind.u64.wrap _ = _
        rw [wrapU64]; omega
      rw [h1, cvtI_u8 (by omega) (by omega), fits_le (by simp; omega), cond_true, varF, if_neg h]
      rfl
  | _, _, 0, _, _, hd, _ => by omega
theorem refVar_eq (n v : Nat) (hv : v < 18446744073709551616) (hn : 20 ≤ n) : qch n (v : Int) = some (varN v) := refVar_d n 10 v n (by omega) hv (by omega) (by omega)
def fixN (k v : Nat) : List Int := (List.range k).map fun i => ((v / 256 ^ i % 256 : Nat) : Int)
theorem fixN_len (k v : Nat) : (fixN k v).length = k := by simp [fixN]
def pos (k : Int) : Nat := k.toNat
def typV (t : Int × Int) : List Int := varN (pos t.1) ++ varN (pos t.2)
theorem typV_len (t : Int × Int) : (typV t).length ≤ 22 := by
  have := varN_len (pos t.1)
  have := varN_len (pos t.2)
  rw [typV, List.length_append]; omega
def okI (x : Int) : Prop := -9223372036854775808 ≤ x ∧ x ≤ 9223372036854775807
def okT (t : Int × Int) : Prop := okI t.1 ∧ okI t.2
theorem pos_lt {k : Int} (h : okI k) : pos k < 18446744073709551616 := by
  unfold pos; unfold okI at h; omega
theorem maxI0 {k : Int} (h : okI k) : cvtI .u64 (maxI k 0) = ((pos k : Nat) : Int) := by
  unfold maxI pos; unfold okI at h
  by_cases h0 : k < 0
  · rw [decide_eq_true (by omega), cond_true]
    have : k.toNat = 0 := by omega
    rw [this]; rfl
  · rw [decide_eq_false (by omega), cond_false, cvtI_u64 (by omega) (by omega)]; omega
theorem qcm_eq (n : Nat) (t : Int × Int) (ht : okT t) (hn : 20 ≤ n) : qcm n t.1 t.2 = some (typV t) := by
  unfold qcm
  have hl := typV_len t
  rw [maxI0 ht.1, maxI0 ht.2, qcq_eq n _ (pos_lt ht.1) hn, Option.bind_some, qcq_eq n _ (pos_lt ht.2) hn, Option.bind_some]
  show (bif Nat.ble (typV t).length 4294967296 then some (typV t) else none) = _
  rw [fits_le (by omega), cond_true]
theorem refType_eq (n : Nat) (t : Int × Int) (ht : okT t) (hn : 20 ≤ n) : qce n t.1 t.2 = some (typV t) := by
  have hl := typV_len t
  have h0 : ∀ {k : Int}, okI k → k < 0 → qch n (cvtI .u64 0) = some (varN (pos k)) := by
    intro k hk h
    rw [show cvtI .u64 0 = ((0 : Nat) : Int) from rfl, refVar_eq n 0 (by omega) hn]
    have : pos k = 0 := by unfold pos; omega
    rw [this]
  have h1 : ∀ {k : Int}, okI k → ¬ k < 0 → qch n (cvtI .u64 k) = some (varN (pos k)) := by
    intro k hk h
    unfold okI at hk
    have : cvtI .u64 k = ((pos k : Nat) : Int) := by
      rw [cvtI_u64 (by omega) (by omega)]; unfold pos; omega
    rw [this, refVar_eq n _ (by unfold pos; omega) hn]
  have fin : (bif Nat.ble (varN (pos t.1) ++ varN (pos t.2)).length 4294967296 then some (varN (pos t.1) ++ varN (pos t.2)) else none) = some (typV t) := by
    show (bif Nat.ble (typV t).length 4294967296 then some (typV t) else none) = _
    rw [fits_le (by omega), cond_true]
  unfold qce
  by_cases ha : t.1 < 0
  · by_cases hb : t.2 < 0
    · rw [decide_eq_true ha, cond_true, decide_eq_true hb, cond_true, h0 ht.1 ha, Option.bind_some]
      have := h0 ht.2 hb
      rw [h0 ht.1 ha] at this
      rw [Option.bind_some, Option.some.inj this, ← Option.some.inj this] 
      rw [Option.some.inj this] at fin ⊢
      exact fin
    · rw [decide_eq_true ha, cond_true, decide_eq_false hb, cond_false, h0 ht.1 ha, Option.bind_some, h1 ht.2 hb, Option.bind_some]
      exact fin
  · by_cases hb : t.2 < 0
    · rw [decide_eq_false ha, cond_false, decide_eq_true hb, cond_true, h1 ht.1 ha, Option.bind_some, h0 ht.2 hb, Option.bind_some]
      exact fin
    · rw [decide_eq_false ha, cond_false, decide_eq_false hb, cond_false, h1 ht.1 ha, Option.bind_some, h1 ht.2 hb, Option.bind_some]
      exact fin
def goodV (recs : Int) (t : Int × Int) : Bool :=
  if t.1 = 1 ∨ t.1 = 2 ∨ t.1 = 3 ∨ t.1 = 7 then t.2 == 0 else if t.1 = 4 then decide (0 ≤ t.2 ∧ t.2 < recs) else if t.1 = 5 then decide (0 ≤ t.2 ∧ t.2 < 4) else false
theorem good_eq (n : Nat) (t : Int × Int) (recs : Int) : qci n t.1 t.2 recs = some (goodV recs t) := by
  obtain ⟨k, m⟩ := t
  unfold qci goodV
  simp only [Bool.cond_eq_ite, beq_iff_eq, decide_eq_true_eq]
  by_cases h1 : k = 1
  · simp [h1]
  by_cases h2 : k = 2
  · simp [h2]
  by_cases h3 : k = 3
  · simp [h3]
  by_cases h7 : k = 7
  · simp [h7]
  by_cases h4 : k = 4
  · by_cases hm : 0 ≤ m <;> simp [h4, hm]
  by_cases h5 : k = 5
  · by_cases hm : 0 ≤ m <;> simp [h5, hm]
  simp [h1, h2, h3, h4, h5, h7]
theorem refGood_eq (n : Nat) (t : Int × Int) (recs : Int) : qbz n t.1 t.2 recs = some (goodV recs t) := good_eq n t recs
end Sx
