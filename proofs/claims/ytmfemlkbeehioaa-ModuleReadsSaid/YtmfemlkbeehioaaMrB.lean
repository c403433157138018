/- Instructions as bytes; lists of types. -/
import Derived.Test.YtmfemlkbeehioaaMrA
set_option linter.unusedVariables false
set_option linter.unusedSimpArgs false
namespace Sx
open Go Go.Ab
def argsV (op : Int) : Int :=
  if op < 0 ∨ 42 ≤ op then -1 else if op = 29 ∨ op = 30 then 2
  else if op = 0 ∨ op = 1 ∨ op = 3 ∨ op = 4 ∨ op = 23 ∨ op = 24 ∨ op = 25 ∨ op = 27 ∨ op = 28 then 1 else 0
theorem argsV_cases (op : Int) : argsV op = -1 ∨ argsV op = 0 ∨ argsV op = 1 ∨ argsV op = 2 := by
  unfold argsV
  split
  · exact .inl rfl
  · split
    · exact .inr (.inr (.inr rfl))
    · split
      · exact .inr (.inr (.inl rfl))
      · exact .inr (.inl rfl)
theorem argsV_in {op : Int} (h : 0 ≤ argsV op) : 0 ≤ op ∧ op < 42 := by
  unfold argsV at h
  split at h <;> omega
theorem qcj_eq (n : Nat) (op : Int) : qcj n op = some (argsV op) := by
  by_cases h : 0 ≤ op ∧ op < 42
  · obtain ⟨k, rfl⟩ : ∃ k : Nat, op = (k : Int) := ⟨op.toNat, by omega⟩
    have hk : ∀ k : Nat, k < 42 → qcj 0 (k : Int) = some (argsV (k : Int)) := by decide +kernel
    exact hk k (by omega)
  · have ha : argsV op = -1 := by
      unfold argsV
      rw [if_pos (by omega)]
    rw [ha]
    unfold qcj
    simp only [Bool.cond_eq_ite, beq_iff_eq, decide_eq_true_eq]
    rw [if_neg (by omega), if_neg (by omega), if_neg (by omega), if_neg (by omega), if_neg (by omega), if_neg (by omega), if_neg (by omega), if_neg (by omega), if_neg (by omega), if_neg (by omega), if_neg (by omega)]
    by_cases h0 : op < 0
    · rw [if_pos h0]
    · rw [if_neg h0, if_pos (by omega)]
theorem refArgs_eq (n : Nat) (op : Int) (hn : 10 ≤ n) : qca n op = some (argsV op) := by
  by_cases h : 0 ≤ op ∧ op < 42
  · obtain ⟨k, rfl⟩ : ∃ k : Nat, op = (k : Int) := ⟨op.toNat, by omega⟩
    have hk : ∀ k : Nat, k < 42 → qca 10 (k : Int) = some (argsV (k : Int)) := by decide +kernel
    have h3 := hk k (by omega)
    unfold qca at h3 ⊢
    rw [decide_eq_false (by omega), cond_false, decide_eq_false (by omega), cond_false] at h3 ⊢
    cases h29 : ((k : Int) == 29) with
    | true => rw [h29] at h3; exact h3
    | false =>
      rw [h29, cond_false] at h3
      rw [cond_false]
      cases h30 : ((k : Int) == 30) with
      | true => rw [h30] at h3; exact h3
      | false =>
        rw [h30, cond_false] at h3
        rw [cond_false]
        obtain ⟨x, hx, h4⟩ := Option.bind_eq_some_iff.1 h3
        rw [show qca_W0 n ((k : Int), [0, 1, 3, 4, 23, 24, 25, 27, 28], 0) = some x from loopS_mono (n := 10) hx n hn]
        exact h4
  · have ha : argsV op = -1 := by
      unfold argsV
      rw [if_pos (by omega)]
    rw [ha]
    unfold qca
    simp only [Bool.cond_eq_ite, beq_iff_eq, decide_eq_true_eq]
    by_cases h0 : op < 0
    · rw [if_pos h0]
    · rw [if_neg h0, if_pos (by omega)]
theorem qco_eq (n : Nat) (v : Int) (b : Bool) : qco n v b = some (decide (0 ≤ v ∧ v ≤ 255 ∧ (b = true ∨ v = 0))) := by
  unfold qco
  simp only [Bool.cond_eq_ite, decide_eq_true_eq]
  by_cases h1 : v ≥ 0
  · by_cases h2 : v ≤ 255
    · cases b with
      | true => rw [if_pos h1, if_pos h2, if_pos rfl, decide_eq_true (by simp; omega)]
      | false =>
        rw [if_pos h1, if_pos h2, if_neg (by simp)]
        by_cases h3 : v = 0
        · simp [h3]
        · rw [beq_false_of_ne h3, decide_eq_false (by simp; omega)]
    · rw [if_pos h1, if_neg h2, decide_eq_false (by omega)]
  · rw [if_neg h1, decide_eq_false (by omega)]
def badI (i : Int × Int × Int) : Bool :=
  decide (argsV i.1 < 0 ∨ ¬ (0 ≤ i.2.1 ∧ i.2.1 ≤ 255 ∧ (argsV i.1 > 0 ∨ i.2.1 = 0)) ∨ ¬ (0 ≤ i.2.2 ∧ i.2.2 ≤ 255 ∧ (argsV i.1 > 1 ∨ i.2.2 = 0)))
def putV (i : Int × Int × Int) : List Int :=
  if badI i = true then [] else i.1 :: ((if argsV i.1 > 0 then varN i.2.1.toNat else []) ++ (if argsV i.1 > 1 then varN i.2.2.toNat else []))
theorem putV_len (i : Int × Int × Int) : (putV i).length ≤ 23 := by
  unfold putV
  have := varN_len i.2.1.toNat
  have := varN_len i.2.2.toNat
  split
  · simp
  · rw [List.length_cons, List.length_append]
    split <;> split <;> simp <;> omega
theorem putV_nil (i : Int × Int × Int) : ((putV i).length == 0) = badI i := by
  unfold putV
  cases badI i <;> simp
theorem cvt_var (n : Nat) (v : Int) (h1 : 0 ≤ v) (h2 : v ≤ 255) (hn : 20 ≤ n) : qcq n (cvtI .u64 v) = some (varN v.toNat) ∧ qch n (cvtI .u64 v) = some (varN v.toNat) := by
  have : cvtI .u64 v = ((v.toNat : Nat) : Int) := by rw [cvtI_u64 h1 (by omega)]; omega
  rw [this]
  exact ⟨qcq_eq n _ (by omega) hn, refVar_eq n _ (by omega) hn⟩
theorem qcn_eq (n : Nat) (i : Int × Int × Int) (hn : 20 ≤ n) : qcn n i.1 i.2.1 i.2.2 = some (putV i) := by
  obtain ⟨op, a, b⟩ := i
  unfold qcn putV badI
  rw [qcj_eq, Option.bind_some]
  simp only []
  by_cases h0 : argsV op < 0
  · rw [decide_eq_true h0, cond_true, if_pos (by rw [decide_eq_true (.inl h0)])]
  rw [decide_eq_false h0, cond_false, qco_eq, Option.bind_some]
  by_cases h1 : 0 ≤ a ∧ a ≤ 255 ∧ (argsV op > 0 ∨ a = 0)
  · have h1' : 0 ≤ a ∧ a ≤ 255 ∧ (decide (argsV op > 0) = true ∨ a = 0) := by simpa using h1
    rw [decide_eq_true h1', Bool.not_true, cond_false, qco_eq, Option.bind_some]
    by_cases h2 : 0 ≤ b ∧ b ≤ 255 ∧ (argsV op > 1 ∨ b = 0)
    · have h2' : 0 ≤ b ∧ b ≤ 255 ∧ (decide (argsV op > 1) = true ∨ b = 0) := by simpa using h2
      have hop := argsV_in (op := op) (by omega)
      rw [decide_eq_true h2', Bool.not_true, cond_false, if_neg (by rw [decide_eq_false]; simp; exact fun h => by rcases h with h | h | h; exact h0 h; exact h h1; exact h h2), cvtI_u8 hop.1 (by omega)]
      have va := (cvt_var n a h1.1 h1.2.1 hn).1
      have vb := (cvt_var n b h2.1 h2.2.1 hn).1
      have la := varN_len a.toNat
      have lb := varN_len b.toNat
      rcases argsV_cases op with hk | hk | hk | hk
      · omega
      · rw [hk]
        obtain ⟨m, rfl⟩ : ∃ m, n = m + 1 := ⟨n - 1, by omega⟩
        rw [show (decide ((0 : Int) ≤ 0) && decide ((0 : Int) ≤ 2)) = true from rfl, cond_true]
        have h : qcn_W0 (m + 1) (((0, (Int.toNat 0) - 0), (((((Int.toNat 0) - 0) : Nat) : Int), 0)), ([op], (a, b))) = some ([op], (a, b)) := by
          refine loopS_out ?_
          rfl
        rw [h]
        rfl
      · rw [hk]
        obtain ⟨m, rfl⟩ : ∃ m, n = m + 2 := ⟨n - 2, by omega⟩
        rw [show (decide ((0 : Int) ≤ 1) && decide ((1 : Int) ≤ 2)) = true from rfl, cond_true]
        have h : qcn_W0 (m + 2) (((0, (Int.toNat 1) - 0), (((((Int.toNat 1) - 0) : Nat) : Int), 0)), ([op], (a, b))) = some ([op] ++ varN a.toNat, (a, b)) := by
          refine (loopS_next (s' := (((0, 1), ((1 : Int), (1 : Int))), ([op] ++ varN a.toNat, (a, b)))) ?_).trans (loopS_out ?_)
          · show ((qcq (m + 2) (cvtI .u64 a)).bind fun r46 => bif Nat.ble ([op] ++ r46).length 4294967296 then some (Sum.inl (((0, 1), ((1 : Int), (addI .i64 0 1))), (([op] ++ r46), (a, b)))) else none) = _
            rw [va, Option.bind_some, fits_le (by simp; omega)]
            rfl
          · rfl
        rw [h]
        simp
      · rw [hk]
        obtain ⟨m, rfl⟩ : ∃ m, n = m + 3 := ⟨n - 3, by omega⟩
        rw [show (decide ((0 : Int) ≤ 2) && decide ((2 : Int) ≤ 2)) = true from rfl, cond_true]
        have h : qcn_W0 (m + 3) (((0, (Int.toNat 2) - 0), (((((Int.toNat 2) - 0) : Nat) : Int), 0)), ([op], (a, b))) = some (([op] ++ varN a.toNat) ++ varN b.toNat, (a, b)) := by
          refine (loopS_next (s' := (((0, 2), ((2 : Int), (1 : Int))), ([op] ++ varN a.toNat, (a, b)))) ?_).trans ((loopS_next (s' := (((0, 2), ((2 : Int), (2 : Int))), (([op] ++ varN a.toNat) ++ varN b.toNat, (a, b)))) ?_).trans (loopS_out ?_))
          · show ((qcq (m + 3) (cvtI .u64 a)).bind fun r46 => bif Nat.ble ([op] ++ r46).length 4294967296 then some (Sum.inl (((0, 2), ((2 : Int), (addI .i64 0 1))), (([op] ++ r46), (a, b)))) else none) = _
            rw [va, Option.bind_some, fits_le (by simp; omega)]
            rfl
          · show ((qcq (m + 3) (cvtI .u64 b)).bind fun r46 => bif Nat.ble (([op] ++ varN a.toNat) ++ r46).length 4294967296 then some (Sum.inl (((0, 2), ((2 : Int), (addI .i64 1 1))), ((([op] ++ varN a.toNat) ++ r46), (a, b)))) else none) = _
            rw [vb, Option.bind_some, fits_le (by simp; omega)]
            rfl
          · rfl
        rw [h]
        simp
    · have h2' : ¬ (0 ≤ b ∧ b ≤ 255 ∧ (decide (argsV op > 1) = true ∨ b = 0)) := by simpa using h2
      rw [decide_eq_false h2', Bool.not_false, cond_true, if_pos (by rw [decide_eq_true (.inr (.inr h2))])]
  · have h1' : ¬ (0 ≤ a ∧ a ≤ 255 ∧ (decide (argsV op > 0) = true ∨ a = 0)) := by simpa using h1
    rw [decide_eq_false h1', Bool.not_false, cond_true, if_pos (by rw [decide_eq_true (.inr (.inl h1))])]
theorem refInstr_eq (n : Nat) (i : Int × Int × Int) (hn : 20 ≤ n) : qbv n i.1 i.2.1 i.2.2 = some (putV i) := by
  obtain ⟨op, a, b⟩ := i
  unfold qbv putV badI
  rw [refArgs_eq n _ (by omega), Option.bind_some]
  simp only [Bool.cond_eq_ite, decide_eq_true_eq, bne_iff_ne]
  by_cases h0 : argsV op < 0
  · rw [if_pos h0, if_pos (.inl h0)]
  rw [if_neg h0]
  by_cases ha0 : a < 0
  · rw [if_pos ha0, if_pos (by omega)]
  rw [if_neg ha0]
  by_cases ha1 : a > 255
  · rw [if_pos ha1, if_pos (by omega)]
  rw [if_neg ha1]
  by_cases hb0 : b < 0
  · rw [if_pos hb0, if_pos (by omega)]
  rw [if_neg hb0]
  by_cases hb1 : b > 255
  · rw [if_pos hb1, if_pos (by omega)]
  rw [if_neg hb1]
  have hop := argsV_in (op := op) (by omega)
  have va := (cvt_var n a (by omega) (by omega) hn).2
  have vb := (cvt_var n b (by omega) (by omega) hn).2
  have la := varN_len a.toNat
  have lb := varN_len b.toNat
  rw [cvtI_u8 hop.1 (by omega), va, vb]
  simp only [Option.bind_some]
  have f1 : Nat.ble ([op] ++ varN a.toNat).length 4294967296 = true := fits_le (by simp; omega)
  have f2 : Nat.ble ([op] ++ varN b.toNat).length 4294967296 = true := fits_le (by simp; omega)
  have f3 : Nat.ble (([op] ++ varN a.toNat) ++ varN b.toNat).length 4294967296 = true := fits_le (by simp; omega)
  rw [f1, f2, f3]
  rcases argsV_cases op with hk | hk | hk | hk
  · omega
  · rw [hk]
    by_cases ha : a = 0
    · by_cases hb : b = 0
      · simp [ha, hb]
      · simp [ha, hb]
    · simp [ha]
  · rw [hk]
    by_cases hb : b = 0
    · simp [hb]; omega
    · simp [hb]
  · rw [hk]
    simp; omega
end Sx
