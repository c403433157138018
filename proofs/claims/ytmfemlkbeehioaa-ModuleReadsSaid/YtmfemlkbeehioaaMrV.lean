/- Readers: instructions, functions, imports, numbers, texts. -/
import Derived.Test.YtmfemlkbeehioaaMrU
set_option linter.unusedVariables false
set_option linter.unusedSimpArgs false
namespace Sx
open Go Go.Ab
noncomputable def fixedV (k : Int) (xs : List Int) (b : Bool) : Int × List Int × Bool := (fixV (takeV (minI (maxI k 0) 8) xs b).1, (takeV (minI (maxI k 0) 8) xs b).2)
theorem fixed_eq (n : Nat) (k : Int) (xs : List Int) (b : Bool) (hx : xs.length ≤ 4294967296) : qaj n k xs b = some (fixedV k xs b) := by
  unfold qaj fixedV
  rw [take_eq n _ xs b hx, Option.bind_some]
theorem fixedV_len (k : Int) (xs : List Int) (b : Bool) : (fixedV k xs b).2.1.length ≤ xs.length := (takeV_len _ xs b).1
theorem fixV_range (l : List Int) : 0 ≤ fixV l ∧ fixV l ≤ 18446744073709551615 := by
  cases l with
  | nil => simp [fixV]
  | cons x l => exact orI_range _ _
noncomputable def instV (xs : List Int) (b : Bool) : InD × Bool × List Int × Bool :=
  let f := fixedV 1 xs b
  let op := cvtI .i64 f.1
  if f.2.2 = true ∨ argsV op < 0 then ((0, 0, 0), false, f.2) else
  if argsV op = 0 then ((op, 0, 0), true, f.2) else
  let q := varV f.2.1 f.2.2
  if q.2.2 = true ∨ q.1 > 255 then ((0, 0, 0), false, q.2) else
  if argsV op = 1 then ((op, q.1, 0), true, q.2) else
  let p := varV q.2.1 q.2.2
  if p.2.2 = true ∨ p.1 > 255 then ((0, 0, 0), false, p.2) else ((op, q.1, p.1), true, p.2)
theorem instV_len (xs : List Int) (b : Bool) : (instV xs b).2.2.1.length ≤ xs.length := by
  have h1 := fixedV_len 1 xs b
  have h2 := varV_len (fixedV 1 xs b).2.1 (fixedV 1 xs b).2.2
  have h3 := varV_len (varV (fixedV 1 xs b).2.1 (fixedV 1 xs b).2.2).2.1 (varV (fixedV 1 xs b).2.1 (fixedV 1 xs b).2.2).2.2
  unfold instV
  simp only
  split
  · exact h1
  · split
    · exact h1
    · split
      · simp only; omega
      · split
        · simp only; omega
        · split <;> (simp only; omega)
theorem inst_end (n : Nat) (op t k : Int) (xs : List Int) (b : Bool) (a0 a1 a2 u v : Int) (h : ¬ k < t) : qcp_B0 n op t k xs b a0 a1 a2 u v = some (Sum.inr (Sum.inr (op, ((xs, b), ((a0, (a1, a2)), (u, v)))))) := by
  unfold qcp_B0
  rw [decide_eq_false h, cond_false]
theorem inst_0 (n : Nat) (op t : Int) (xs : List Int) (b : Bool) (a0 a1 a2 u v : Int) (h : 0 < t) (hx : xs.length ≤ 4294967296) (hn : 20 ≤ n) :
    qcp_B0 n op t 0 xs b a0 a1 a2 u v = if (varV xs b).2.2 = true ∨ (varV xs b).1 > 255 then some (Sum.inr (Sum.inl (false, ((varV xs b).2, ((0, (0, 0)), ((varV xs b).1, v)))))) else some (Sum.inl ((op, (t, 1)), ((varV xs b).2, ((a0, (a1, a2)), ((varV xs b).1, v))))) := by
  unfold qcp_B0
  rw [decide_eq_true h, cond_true, var_eq n xs b hx hn]
  simp only [qbb, Option.bind_some]
  generalize varV xs b = r
  obtain ⟨w, xs1, b1⟩ := r
  cases b1 with
  | true => rw [if_pos (.inl rfl)]; rfl
  | false =>
    by_cases h2 : w > 255
    · rw [if_pos (.inr h2), decide_eq_true h2]; rfl
    · rw [if_neg (by simp [h2]), decide_eq_false h2]; rfl
theorem inst_1 (n : Nat) (op t : Int) (xs : List Int) (b : Bool) (a0 a1 a2 u v : Int) (h : 1 < t) (hx : xs.length ≤ 4294967296) (hn : 20 ≤ n) :
    qcp_B0 n op t 1 xs b a0 a1 a2 u v = if (varV xs b).2.2 = true ∨ (varV xs b).1 > 255 then some (Sum.inr (Sum.inl (false, ((varV xs b).2, ((0, (0, 0)), (u, (varV xs b).1)))))) else some (Sum.inl ((op, (t, 2)), ((varV xs b).2, ((a0, (a1, a2)), (u, (varV xs b).1))))) := by
  unfold qcp_B0
  rw [decide_eq_true h, cond_true, var_eq n xs b hx hn]
  simp only [qbb, Option.bind_some]
  generalize varV xs b = r
  obtain ⟨w, xs1, b1⟩ := r
  cases b1 with
  | true => rw [if_pos (.inl rfl)]; rfl
  | false =>
    by_cases h2 : w > 255
    · rw [if_pos (.inr h2), decide_eq_true h2]; rfl
    · rw [if_neg (by simp [h2]), decide_eq_false h2]; rfl
theorem inst_eq (n : Nat) (xs : List Int) (b : Bool) (hx : xs.length ≤ 4294967296) (hn : 20 ≤ n) : qcp n xs b = some (((instV xs b).1, (instV xs b).2.1), (instV xs b).2.2) := by
  unfold qcp instV
  have h1 := fixedV_len 1 xs b
  rw [fixed_eq n 1 xs b hx]
  simp only [qbb, Option.bind_some, qcj_eq]
  generalize fixedV 1 xs b = f at h1 ⊢
  obtain ⟨v, xs1, b1⟩ := f
  simp only at h1 ⊢
  have h2 := varV_len xs1 b1
  cases b1 with
  | true => rw [if_pos (.inl rfl)]; rfl
  | false =>
    simp only [cond_false, Bool.false_eq_true, false_or]
    generalize cvtI .i64 v = op
    by_cases e : argsV op < 0
    · rw [if_pos e, decide_eq_true e]; rfl
    · rw [if_neg e, decide_eq_false e, cond_false]
      obtain ⟨m, rfl⟩ : ∃ m, n = m + 3 := ⟨n - 3, by omega⟩
      have hr := argsV_cases op
      by_cases e0 : argsV op = 0
      · rw [if_pos e0, e0]
        have : qcp_W0 (m + 3) ((op, (0, 0)), ((xs1, false), ((0, (0, 0)), (0, 0)))) = some (Sum.inr (op, ((xs1, false), ((0, (0, 0)), (0, 0))))) := loopS_out (inst_end (m + 3) op 0 0 xs1 false 0 0 0 0 0 (by omega))
        rw [this]; rfl
      · rw [if_neg e0]
        have hB0 := inst_0 (m + 3) op (argsV op) xs1 false 0 0 0 0 0 (by omega) (by omega) hn
        by_cases c0 : (varV xs1 false).2.2 = true ∨ (varV xs1 false).1 > 255
        · rw [if_pos c0] at hB0 ⊢
          have : qcp_W0 (m + 3) ((op, (argsV op, 0)), ((xs1, false), ((0, (0, 0)), (0, 0)))) = some (Sum.inl (false, ((varV xs1 false).2, ((0, (0, 0)), ((varV xs1 false).1, 0))))) := loopS_out hB0
          rw [this]; rfl
        · rw [if_neg c0] at hB0 ⊢
          have hv := varV_range xs1 false
          have hq : (varV xs1 false).1 ≤ 255 := Int.not_lt.mp fun h => c0 (.inr h)
          have hl2 := varV_len (varV xs1 false).2.1 (varV xs1 false).2.2
          by_cases e1 : argsV op = 1
          · rw [if_pos e1]
            rw [e1] at hB0 ⊢
            have : qcp_W0 (m + 3) ((op, (1, 0)), ((xs1, false), ((0, (0, 0)), (0, 0)))) = some (Sum.inr (op, ((varV xs1 false).2, ((0, (0, 0)), ((varV xs1 false).1, 0))))) := by
              refine (loopS_next (s := ((op, (1, 0)), ((xs1, false), ((0, (0, 0)), (0, 0))))) hB0).trans (loopS_out ?_)
              exact inst_end (m + 3) op 1 1 _ _ 0 0 0 _ 0 (by omega)
            rw [this]
            show some (((op, (cvtI .i64 (varV xs1 false).1, cvtI .i64 0)), true), (varV xs1 false).2) = _
            rw [cvtI_i64 (by omega) (by omega)]; rfl
          · rw [if_neg e1]
            have e2 : argsV op = 2 := by omega
            rw [e2] at hB0 ⊢
            have hB1 := inst_1 (m + 3) op 2 (varV xs1 false).2.1 (varV xs1 false).2.2 0 0 0 (varV xs1 false).1 0 (by omega) (by omega) hn
            by_cases c1 : (varV (varV xs1 false).2.1 (varV xs1 false).2.2).2.2 = true ∨ (varV (varV xs1 false).2.1 (varV xs1 false).2.2).1 > 255
            · rw [if_pos c1] at hB1 ⊢
              have : qcp_W0 (m + 3) ((op, (2, 0)), ((xs1, false), ((0, (0, 0)), (0, 0)))) = some (Sum.inl (false, ((varV (varV xs1 false).2.1 (varV xs1 false).2.2).2, ((0, (0, 0)), ((varV xs1 false).1, (varV (varV xs1 false).2.1 (varV xs1 false).2.2).1))))) :=
                (loopS_next (s := ((op, (2, 0)), ((xs1, false), ((0, (0, 0)), (0, 0))))) hB0).trans (loopS_out hB1)
              rw [this]; rfl
            · rw [if_neg c1] at hB1 ⊢
              have hv2 := varV_range (varV xs1 false).2.1 (varV xs1 false).2.2
              have hq2 : (varV (varV xs1 false).2.1 (varV xs1 false).2.2).1 ≤ 255 := Int.not_lt.mp fun h => c1 (.inr h)
              have : qcp_W0 (m + 3) ((op, (2, 0)), ((xs1, false), ((0, (0, 0)), (0, 0)))) = some (Sum.inr (op, ((varV (varV xs1 false).2.1 (varV xs1 false).2.2).2, ((0, (0, 0)), ((varV xs1 false).1, (varV (varV xs1 false).2.1 (varV xs1 false).2.2).1))))) :=
                (loopS_next (s := ((op, (2, 0)), ((xs1, false), ((0, (0, 0)), (0, 0))))) hB0).trans ((loopS_next (s := ((op, (2, 1)), ((varV xs1 false).2, ((0, (0, 0)), ((varV xs1 false).1, 0))))) hB1).trans (loopS_out (inst_end (m + 3) op 2 2 _ _ 0 0 0 _ _ (by omega))))
              rw [this]
              show some (((op, (cvtI .i64 (varV xs1 false).1, cvtI .i64 (varV (varV xs1 false).2.1 (varV xs1 false).2.2).1)), true), (varV (varV xs1 false).2.1 (varV xs1 false).2.2).2) = _
              rw [cvtI_i64 (by omega) (by omega), cvtI_i64 (by omega) (by omega)]
theorem oneV_len (recs : Int) (bad : Bool) (xs : List Int) (b : Bool) : (oneV recs bad xs b).2.2.1.length ≤ xs.length := getV_len recs xs b
noncomputable def instrV (recs : Int) (bad : Bool) (xs : List Int) (b : Bool) : InD × Bool × List Int × Bool := ((instV xs b).1, bad || !(instV xs b).2.1, (instV xs b).2.2)
theorem instrV_len (recs : Int) (bad : Bool) (xs : List Int) (b : Bool) : (instrV recs bad xs b).2.2.1.length ≤ xs.length := instV_len xs b
theorem instr_eq (n : Nat) (recs : Int) (bad : Bool) (xs : List Int) (b : Bool) (hx : xs.length ≤ 4294967296) (hn : 2000 ≤ n) : qj n recs bad xs b = some ((instrV recs bad xs b).1, ((recs, (instrV recs bad xs b).2.1), (instrV recs bad xs b).2.2)) := by
  unfold qj instrV
  rw [inst_eq n xs b hx (by omega), Option.bind_some]
  cases bad <;> rfl
theorem qf_eq (n : Nat) (most recs : Int) (bad : Bool) (xs : List Int) (b : Bool) (hm : 0 ≤ most ∧ most ≤ 1000) (hx : xs.length ≤ 4294967296) (hn : 2000 ≤ n) :
    qf n most recs bad xs b = some ((clistV (instrV recs) most bad xs b).1, ((recs, (clistV (instrV recs) most bad xs b).2.1), (clistV (instrV recs) most bad xs b).2.2)) := by
  unfold qf
  rw [countR_eq n most recs bad xs b hm hx (by omega), Option.bind_some]
  unfold clistV
  have hc := countV_range most hm.1 bad xs b
  have hl := countV_len most bad xs b
  generalize countV most bad xs b = c at hc hl ⊢
  obtain ⟨c0, bad1, xs1, b1⟩ := c
  simp only at hc hl ⊢
  obtain ⟨t, rfl⟩ : ∃ t : Nat, c0 = (t : Int) := ⟨c0.toNat, by omega⟩
  have h := list_loop (B := fun s => qf_B0 n s.1.1 s.1.2 s.2.1.1 s.2.1.2 s.2.2.1.1 s.2.2.1.2 s.2.2.2) (mk := fun (i : Nat) acc bad xs b => (((t : Int), (i : Int)), ((recs, bad), ((xs, b), acc)))) (fin := fun r => ((recs, r.2.1), (r.2.2, r.1))) (one := instrV recs) (t := t) (M := 4294967296) (fun bad xs b => instrV_len recs bad xs b)
    (fun i acc bad xs b hi ha hx => by
      show qf_B0 n (t : Int) (i : Int) recs bad xs b acc = _
      unfold qf_B0
      rw [decide_eq_true (by omega), cond_true, instr_eq n recs bad xs b hx (by omega), Option.bind_some, next_i64 (by omega), fits_le (by simp; omega), cond_true]
      cases bad <;> rfl)
    (fun acc bad xs b => by
      show qf_B0 n (t : Int) (t : Int) recs bad xs b acc = _
      unfold qf_B0
      rw [decide_eq_false (by omega), cond_false]) t 0 n [] bad1 xs1 b1 (by omega) (by omega) rfl (by omega)
  rw [show qf_W0 n (((t : Int), 0), ((recs, bad1), ((xs1, b1), []))) = _ from h, Option.bind_some]
  rfl
noncomputable def funcV (recs : Int) (bad : Bool) (xs : List Int) (b : Bool) : FnD × Bool × List Int × Bool :=
  let a := clistV (oneV recs) 4 bad xs b
  let r := oneV recs a.2.1 a.2.2.1 a.2.2.2
  let l := clistV (oneV recs) 8 r.2.1 r.2.2.1 r.2.2.2
  let c := clistV (instrV recs) 64 l.2.1 l.2.2.1 l.2.2.2
  ((a.1, r.1.1, r.1.2, l.1, c.1), c.2)
theorem funcV_len (recs : Int) (bad : Bool) (xs : List Int) (b : Bool) : (funcV recs bad xs b).2.2.1.length ≤ xs.length := by
  unfold funcV
  simp only
  exact Nat.le_trans (clistV_len (instrV_len recs) _ _ _ _) (Nat.le_trans (clistV_len (oneV_len recs) _ _ _ _) (Nat.le_trans (oneV_len recs _ _ _) (clistV_len (oneV_len recs) _ _ _ _)))
theorem func_eq (n : Nat) (recs : Int) (bad : Bool) (xs : List Int) (b : Bool) (hx : xs.length ≤ 4294967296) (hn : 2000 ≤ n) : qa n recs bad xs b = some ((funcV recs bad xs b).1, ((recs, (funcV recs bad xs b).2.1), (funcV recs bad xs b).2.2)) := by
  unfold qa funcV
  have l1 := clistV_len (oneV_len recs) 4 bad xs b
  have l2 := oneV_len recs (clistV (oneV recs) 4 bad xs b).2.1 (clistV (oneV recs) 4 bad xs b).2.2.1 (clistV (oneV recs) 4 bad xs b).2.2.2
  have l3 := clistV_len (oneV_len recs) 8 (oneV recs (clistV (oneV recs) 4 bad xs b).2.1 (clistV (oneV recs) 4 bad xs b).2.2.1 (clistV (oneV recs) 4 bad xs b).2.2.2).2.1 (oneV recs (clistV (oneV recs) 4 bad xs b).2.1 (clistV (oneV recs) 4 bad xs b).2.2.1 (clistV (oneV recs) 4 bad xs b).2.2.2).2.2.1 (oneV recs (clistV (oneV recs) 4 bad xs b).2.1 (clistV (oneV recs) 4 bad xs b).2.2.1 (clistV (oneV recs) 4 bad xs b).2.2.2).2.2.2
  rw [listTypes_eq n 4 recs bad xs b (by omega) hx hn, Option.bind_some]
  dsimp only
  rw [one_eq n recs (clistV (oneV recs) 4 bad xs b).2.1 (clistV (oneV recs) 4 bad xs b).2.2.1 (clistV (oneV recs) 4 bad xs b).2.2.2 (by omega) (by omega), Option.bind_some]
  dsimp only
  rw [listTypes_eq n 8 recs (oneV recs (clistV (oneV recs) 4 bad xs b).2.1 (clistV (oneV recs) 4 bad xs b).2.2.1 (clistV (oneV recs) 4 bad xs b).2.2.2).2.1 (oneV recs (clistV (oneV recs) 4 bad xs b).2.1 (clistV (oneV recs) 4 bad xs b).2.2.1 (clistV (oneV recs) 4 bad xs b).2.2.2).2.2.1 (oneV recs (clistV (oneV recs) 4 bad xs b).2.1 (clistV (oneV recs) 4 bad xs b).2.2.1 (clistV (oneV recs) 4 bad xs b).2.2.2).2.2.2 (by omega) (by omega) hn, Option.bind_some]
  dsimp only
  rw [qf_eq n 64 recs (clistV (oneV recs) 8 (oneV recs (clistV (oneV recs) 4 bad xs b).2.1 (clistV (oneV recs) 4 bad xs b).2.2.1 (clistV (oneV recs) 4 bad xs b).2.2.2).2.1 (oneV recs (clistV (oneV recs) 4 bad xs b).2.1 (clistV (oneV recs) 4 bad xs b).2.2.1 (clistV (oneV recs) 4 bad xs b).2.2.2).2.2.1 (oneV recs (clistV (oneV recs) 4 bad xs b).2.1 (clistV (oneV recs) 4 bad xs b).2.2.1 (clistV (oneV recs) 4 bad xs b).2.2.2).2.2.2).2.1 (clistV (oneV recs) 8 (oneV recs (clistV (oneV recs) 4 bad xs b).2.1 (clistV (oneV recs) 4 bad xs b).2.2.1 (clistV (oneV recs) 4 bad xs b).2.2.2).2.1 (oneV recs (clistV (oneV recs) 4 bad xs b).2.1 (clistV (oneV recs) 4 bad xs b).2.2.1 (clistV (oneV recs) 4 bad xs b).2.2.2).2.2.1 (oneV recs (clistV (oneV recs) 4 bad xs b).2.1 (clistV (oneV recs) 4 bad xs b).2.2.1 (clistV (oneV recs) 4 bad xs b).2.2.2).2.2.2).2.2.1 (clistV (oneV recs) 8 (oneV recs (clistV (oneV recs) 4 bad xs b).2.1 (clistV (oneV recs) 4 bad xs b).2.2.1 (clistV (oneV recs) 4 bad xs b).2.2.2).2.1 (oneV recs (clistV (oneV recs) 4 bad xs b).2.1 (clistV (oneV recs) 4 bad xs b).2.2.1 (clistV (oneV recs) 4 bad xs b).2.2.2).2.2.1 (oneV recs (clistV (oneV recs) 4 bad xs b).2.1 (clistV (oneV recs) 4 bad xs b).2.2.1 (clistV (oneV recs) 4 bad xs b).2.2.2).2.2.2).2.2.2 (by omega) (by omega) hn, Option.bind_some]
theorem qn_eq (n : Nat) (most recs : Int) (bad : Bool) (xs : List Int) (b : Bool) (hm : 0 ≤ most ∧ most ≤ 1000) (hx : xs.length ≤ 4294967296) (hn : 2000 ≤ n) :
    qn n most recs bad xs b = some ((clistV (funcV recs) most bad xs b).1, ((recs, (clistV (funcV recs) most bad xs b).2.1), (clistV (funcV recs) most bad xs b).2.2)) := by
  unfold qn
  rw [countR_eq n most recs bad xs b hm hx (by omega), Option.bind_some]
  unfold clistV
  have hc := countV_range most hm.1 bad xs b
  have hl := countV_len most bad xs b
  generalize countV most bad xs b = c at hc hl ⊢
  obtain ⟨c0, bad1, xs1, b1⟩ := c
  simp only at hc hl ⊢
  obtain ⟨t, rfl⟩ : ∃ t : Nat, c0 = (t : Int) := ⟨c0.toNat, by omega⟩
  have h := list_loop (B := fun s => qn_B0 n s.1.1 s.1.2 s.2.1.1 s.2.1.2 s.2.2.1.1 s.2.2.1.2 s.2.2.2) (mk := fun (i : Nat) acc bad xs b => (((t : Int), (i : Int)), ((recs, bad), ((xs, b), acc)))) (fin := fun r => ((recs, r.2.1), (r.2.2, r.1))) (one := funcV recs) (t := t) (M := 4294967296) (fun bad xs b => funcV_len recs bad xs b)
    (fun i acc bad xs b hi ha hx => by
      show qn_B0 n (t : Int) (i : Int) recs bad xs b acc = _
      unfold qn_B0
      rw [decide_eq_true (by omega), cond_true, func_eq n recs bad xs b hx (by omega), Option.bind_some, next_i64 (by omega), fits_le (by simp; omega), cond_true]
      cases bad <;> rfl)
    (fun acc bad xs b => by
      show qn_B0 n (t : Int) (t : Int) recs bad xs b acc = _
      unfold qn_B0
      rw [decide_eq_false (by omega), cond_false]) t 0 n [] bad1 xs1 b1 (by omega) (by omega) rfl (by omega)
  rw [show qn_W0 n (((t : Int), 0), ((recs, bad1), ((xs1, b1), []))) = _ from h, Option.bind_some]
  rfl
def hostV (recs : Int) (bad : Bool) (xs : List Int) (b : Bool) : ImD × Bool × List Int × Bool :=
  let a := clistV (oneV recs) 4 bad xs b
  let r := oneV recs a.2.1 a.2.2.1 a.2.2.2
  ((a.1, r.1.1, r.1.2), r.2)
theorem hostV_len (recs : Int) (bad : Bool) (xs : List Int) (b : Bool) : (hostV recs bad xs b).2.2.1.length ≤ xs.length := by
  unfold hostV
  simp only
  exact Nat.le_trans (oneV_len recs _ _ _) (clistV_len (oneV_len recs) _ _ _ _)
theorem host_eq (n : Nat) (recs : Int) (bad : Bool) (xs : List Int) (b : Bool) (hx : xs.length ≤ 4294967296) (hn : 2000 ≤ n) : qq n recs bad xs b = some ((hostV recs bad xs b).1, ((recs, (hostV recs bad xs b).2.1), (hostV recs bad xs b).2.2)) := by
  unfold qq hostV
  have l1 := clistV_len (oneV_len recs) 4 bad xs b
  rw [listTypes_eq n 4 recs bad xs b (by omega) hx hn, Option.bind_some]
  dsimp only
  rw [one_eq n recs (clistV (oneV recs) 4 bad xs b).2.1 (clistV (oneV recs) 4 bad xs b).2.2.1 (clistV (oneV recs) 4 bad xs b).2.2.2 (by omega) (by omega), Option.bind_some]
theorem qb_eq (n : Nat) (most recs : Int) (bad : Bool) (xs : List Int) (b : Bool) (hm : 0 ≤ most ∧ most ≤ 1000) (hx : xs.length ≤ 4294967296) (hn : 2000 ≤ n) :
    qb n most recs bad xs b = some ((clistV (hostV recs) most bad xs b).1, ((recs, (clistV (hostV recs) most bad xs b).2.1), (clistV (hostV recs) most bad xs b).2.2)) := by
  unfold qb
  rw [countR_eq n most recs bad xs b hm hx (by omega), Option.bind_some]
  unfold clistV
  have hc := countV_range most hm.1 bad xs b
  have hl := countV_len most bad xs b
  generalize countV most bad xs b = c at hc hl ⊢
  obtain ⟨c0, bad1, xs1, b1⟩ := c
  simp only at hc hl ⊢
  obtain ⟨t, rfl⟩ : ∃ t : Nat, c0 = (t : Int) := ⟨c0.toNat, by omega⟩
  have h := list_loop (B := fun s => qb_B0 n s.1.1 s.1.2 s.2.1.1 s.2.1.2 s.2.2.1.1 s.2.2.1.2 s.2.2.2) (mk := fun (i : Nat) acc bad xs b => (((t : Int), (i : Int)), ((recs, bad), ((xs, b), acc)))) (fin := fun r => ((recs, r.2.1), (r.2.2, r.1))) (one := hostV recs) (t := t) (M := 4294967296) (fun bad xs b => hostV_len recs bad xs b)
    (fun i acc bad xs b hi ha hx => by
      show qb_B0 n (t : Int) (i : Int) recs bad xs b acc = _
      unfold qb_B0
      rw [decide_eq_true (by omega), cond_true, host_eq n recs bad xs b hx (by omega), Option.bind_some, next_i64 (by omega), fits_le (by simp; omega), cond_true]
      cases bad <;> rfl)
    (fun acc bad xs b => by
      show qb_B0 n (t : Int) (t : Int) recs bad xs b acc = _
      unfold qb_B0
      rw [decide_eq_false (by omega), cond_false]) t 0 n [] bad1 xs1 b1 (by omega) (by omega) rfl (by omega)
  rw [show qb_W0 n (((t : Int), 0), ((recs, bad1), ((xs1, b1), []))) = _ from h, Option.bind_some]
  rfl
noncomputable def u64V (recs : Int) (bad : Bool) (xs : List Int) (b : Bool) : Int × Bool × List Int × Bool := ((fixedV 8 xs b).1, bad, (fixedV 8 xs b).2)
theorem u64V_len (recs : Int) (bad : Bool) (xs : List Int) (b : Bool) : (u64V recs bad xs b).2.2.1.length ≤ xs.length := fixedV_len 8 xs b
theorem u64_eq (n : Nat) (recs : Int) (bad : Bool) (xs : List Int) (b : Bool) (hx : xs.length ≤ 4294967296) (hn : 2000 ≤ n) : qal n recs bad xs b = some ((u64V recs bad xs b).1, ((recs, (u64V recs bad xs b).2.1), (u64V recs bad xs b).2.2)) := by
  unfold qal u64V
  rw [fixed_eq n 8 xs b hx, Option.bind_some]
theorem qr_eq (n : Nat) (most recs : Int) (bad : Bool) (xs : List Int) (b : Bool) (hm : 0 ≤ most ∧ most ≤ 1000) (hx : xs.length ≤ 4294967296) (hn : 2000 ≤ n) :
    qr n most recs bad xs b = some ((clistV (u64V recs) most bad xs b).1, ((recs, (clistV (u64V recs) most bad xs b).2.1), (clistV (u64V recs) most bad xs b).2.2)) := by
  unfold qr
  rw [countR_eq n most recs bad xs b hm hx (by omega), Option.bind_some]
  unfold clistV
  have hc := countV_range most hm.1 bad xs b
  have hl := countV_len most bad xs b
  generalize countV most bad xs b = c at hc hl ⊢
  obtain ⟨c0, bad1, xs1, b1⟩ := c
  simp only at hc hl ⊢
  obtain ⟨t, rfl⟩ : ∃ t : Nat, c0 = (t : Int) := ⟨c0.toNat, by omega⟩
  have h := list_loop (B := fun s => qr_B0 n s.1.1 s.1.2 s.2.1.1 s.2.1.2 s.2.2.1.1 s.2.2.1.2 s.2.2.2) (mk := fun (i : Nat) acc bad xs b => (((t : Int), (i : Int)), ((recs, bad), ((xs, b), acc)))) (fin := fun r => ((recs, r.2.1), (r.2.2, r.1))) (one := u64V recs) (t := t) (M := 4294967296) (fun bad xs b => u64V_len recs bad xs b)
    (fun i acc bad xs b hi ha hx => by
      show qr_B0 n (t : Int) (i : Int) recs bad xs b acc = _
      unfold qr_B0
      rw [decide_eq_true (by omega), cond_true, u64_eq n recs bad xs b hx (by omega), Option.bind_some, next_i64 (by omega), fits_le (by simp; omega), cond_true]
      cases bad <;> rfl)
    (fun acc bad xs b => by
      show qr_B0 n (t : Int) (t : Int) recs bad xs b acc = _
      unfold qr_B0
      rw [decide_eq_false (by omega), cond_false]) t 0 n [] bad1 xs1 b1 (by omega) (by omega) rfl (by omega)
  rw [show qr_W0 n (((t : Int), 0), ((recs, bad1), ((xs1, b1), []))) = _ from h, Option.bind_some]
  rfl
def textV (recs : Int) (bad : Bool) (xs : List Int) (b : Bool) : ByteArray × Bool × List Int × Bool :=
  let c := countV 32 bad xs b
  let t := takeV c.1 c.2.2.1 c.2.2.2
  (intsBytes t.1, c.2.1, t.2)
theorem textV_len (recs : Int) (bad : Bool) (xs : List Int) (b : Bool) : (textV recs bad xs b).2.2.1.length ≤ xs.length := Nat.le_trans (takeV_len _ _ _).1 (countV_len 32 bad xs b)
theorem text_eq (n : Nat) (recs : Int) (bad : Bool) (xs : List Int) (b : Bool) (hx : xs.length ≤ 4294967296) (hn : 2000 ≤ n) : qax n recs bad xs b = some ((textV recs bad xs b).1, ((recs, (textV recs bad xs b).2.1), (textV recs bad xs b).2.2)) := by
  unfold qax textV
  have := countV_len 32 bad xs b
  rw [countR_eq n 32 recs bad xs b (by omega) hx (by omega), Option.bind_some]
  dsimp only
  rw [take_eq n _ _ _ (by omega), Option.bind_some]
theorem qu_eq (n : Nat) (most recs : Int) (bad : Bool) (xs : List Int) (b : Bool) (hm : 0 ≤ most ∧ most ≤ 1000) (hx : xs.length ≤ 4294967296) (hn : 2000 ≤ n) :
    qu n most recs bad xs b = some ((clistV (textV recs) most bad xs b).1, ((recs, (clistV (textV recs) most bad xs b).2.1), (clistV (textV recs) most bad xs b).2.2)) := by
  unfold qu
  rw [countR_eq n most recs bad xs b hm hx (by omega), Option.bind_some]
  unfold clistV
  have hc := countV_range most hm.1 bad xs b
  have hl := countV_len most bad xs b
  generalize countV most bad xs b = c at hc hl ⊢
  obtain ⟨c0, bad1, xs1, b1⟩ := c
  simp only at hc hl ⊢
  obtain ⟨t, rfl⟩ : ∃ t : Nat, c0 = (t : Int) := ⟨c0.toNat, by omega⟩
  have h := list_loop (B := fun s => qu_B0 n s.1.1 s.1.2 s.2.1.1 s.2.1.2 s.2.2.1.1 s.2.2.1.2 s.2.2.2) (mk := fun (i : Nat) acc bad xs b => (((t : Int), (i : Int)), ((recs, bad), ((xs, b), acc)))) (fin := fun r => ((recs, r.2.1), (r.2.2, r.1))) (one := textV recs) (t := t) (M := 4294967296) (fun bad xs b => textV_len recs bad xs b)
    (fun i acc bad xs b hi ha hx => by
      show qu_B0 n (t : Int) (i : Int) recs bad xs b acc = _
      unfold qu_B0
      rw [decide_eq_true (by omega), cond_true, text_eq n recs bad xs b hx (by omega), Option.bind_some, next_i64 (by omega), fits_le (by simp; omega), cond_true]
      cases bad <;> rfl)
    (fun acc bad xs b => by
      show qu_B0 n (t : Int) (t : Int) recs bad xs b acc = _
      unfold qu_B0
      rw [decide_eq_false (by omega), cond_false]) t 0 n [] bad1 xs1 b1 (by omega) (by omega) rfl (by omega)
  rw [show qu_W0 n (((t : Int), 0), ((recs, bad1), ((xs1, b1), []))) = _ from h, Option.bind_some]
  rfl
noncomputable def recV (recs : Int) (bad : Bool) (xs : List Int) (b : Bool) : List TyD × Bool × List Int × Bool := clistV (oneV recs) 6 bad xs b
theorem recV_len (recs : Int) (bad : Bool) (xs : List Int) (b : Bool) : (recV recs bad xs b).2.2.1.length ≤ xs.length := clistV_len (oneV_len recs) 6 bad xs b
theorem rec_eq (n : Nat) (recs : Int) (bad : Bool) (xs : List Int) (b : Bool) (hx : xs.length ≤ 4294967296) (hn : 2000 ≤ n) : qay n recs bad xs b = some ((recV recs bad xs b).1, ((recs, (recV recs bad xs b).2.1), (recV recs bad xs b).2.2)) := by
  unfold qay recV
  rw [listTypes_eq n 6 recs bad xs b (by omega) hx hn, Option.bind_some]
theorem qk_eq (n : Nat) (most recs : Int) (bad : Bool) (xs : List Int) (b : Bool) (hm : 0 ≤ most ∧ most ≤ 1000) (hx : xs.length ≤ 4294967296) (hn : 2000 ≤ n) :
    qk n most recs bad xs b = some ((clistV (recV recs) most bad xs b).1, ((recs, (clistV (recV recs) most bad xs b).2.1), (clistV (recV recs) most bad xs b).2.2)) := by
  unfold qk
  rw [countR_eq n most recs bad xs b hm hx (by omega), Option.bind_some]
  unfold clistV
  have hc := countV_range most hm.1 bad xs b
  have hl := countV_len most bad xs b
  generalize countV most bad xs b = c at hc hl ⊢
  obtain ⟨c0, bad1, xs1, b1⟩ := c
  simp only at hc hl ⊢
  obtain ⟨t, rfl⟩ : ∃ t : Nat, c0 = (t : Int) := ⟨c0.toNat, by omega⟩
  have h := list_loop (B := fun s => qk_B0 n s.1.1 s.1.2 s.2.1.1 s.2.1.2 s.2.2.1.1 s.2.2.1.2 s.2.2.2) (mk := fun (i : Nat) acc bad xs b => (((t : Int), (i : Int)), ((recs, bad), ((xs, b), acc)))) (fin := fun r => ((recs, r.2.1), (r.2.2, r.1))) (one := recV recs) (t := t) (M := 4294967296) (fun bad xs b => recV_len recs bad xs b)
    (fun i acc bad xs b hi ha hx => by
      show qk_B0 n (t : Int) (i : Int) recs bad xs b acc = _
      unfold qk_B0
      rw [decide_eq_true (by omega), cond_true, rec_eq n recs bad xs b hx (by omega), Option.bind_some, next_i64 (by omega), fits_le (by simp; omega), cond_true]
      cases bad <;> rfl)
    (fun acc bad xs b => by
      show qk_B0 n (t : Int) (t : Int) recs bad xs b acc = _
      unfold qk_B0
      rw [decide_eq_false (by omega), cond_false]) t 0 n [] bad1 xs1 b1 (by omega) (by omega) rfl (by omega)
  rw [show qk_W0 n (((t : Int), 0), ((recs, bad1), ((xs1, b1), []))) = _ from h, Option.bind_some]
  rfl
end Sx
