/- Readers: what the printed functions come to. -/
import Derived.Test.YtmfemlkbeehioaaMrT
set_option linter.unusedVariables false
set_option linter.unusedSimpArgs false
namespace Sx
open Go Go.Ab
def takeV (k : Int) (xs : List Int) (bad : Bool) : List Int × List Int × Bool :=
  if bad = true ∨ k < 0 ∨ k > xs.length then ([], xs, true) else (xs.take k.toNat, xs.drop k.toNat, false)
theorem take_eq (n : Nat) (k : Int) (xs : List Int) (bad : Bool) (hx : xs.length ≤ 4294967296) : qat n k xs bad = some (takeV k xs bad) := by
  unfold qat takeV
  simp only [qbb, qas, Option.bind_some]
  cases bad with
  | true => rfl
  | false =>
    simp only [cond_false, Bool.false_eq_true, false_or]
    by_cases h1 : k < 0
    · rw [decide_eq_true h1, if_pos (.inl h1)]; rfl
    · rw [decide_eq_false h1, cond_false, lenI_eq]
      by_cases h2 : k > (xs.length : Int)
      · rw [decide_eq_true h2, if_pos (.inr h2)]; rfl
      · rw [decide_eq_false h2, if_neg (by omega), cond_false, decide_eq_true (by omega : (0 : Int) ≤ k), decide_eq_true (by omega : k ≤ ((xs.length : Nat) : Int)), fits_le (by rw [List.length_take]; omega)]
        simp only [Bool.and_self, cond_true, List.take_length]
theorem takeV_len (k : Int) (xs : List Int) (bad : Bool) : (takeV k xs bad).2.1.length ≤ xs.length ∧ (takeV k xs bad).1.length ≤ xs.length := by
  unfold takeV
  split
  · exact ⟨Nat.le_refl _, by simp⟩
  · exact ⟨by simp, by simp; omega⟩
theorem mul7 : ∀ k : Nat, k ≤ 9 → (decide (0 ≤ mulI .i64 7 (k : Int))) = true ∧ mulI .i64 7 (k : Int) = ((7 * k : Nat) : Int) := by decide
def vstep (v x : Int) (k : Nat) : Int := orI .u64 v (shlI .u64 (cvtI .u64 (andNotI .u8 x 128)) ((7 * k : Nat) : Int))
def varR : List Int → Nat → Int → Int × List Int × Bool
  | [], _, _ => (0, [], true)
  | x :: xs, k, v => if (k = 9 ∧ x > 1) ∨ (k > 0 ∧ x = 0) then (0, xs, true) else if x < 128 then (vstep v x k, xs, false) else varR xs (k + 1) (vstep v x k)
def varV (xs : List Int) (bad : Bool) : Int × List Int × Bool := if bad = true then (0, xs, true) else varR xs 0 0
theorem var_loop (n : Nat) : ∀ (xs : List Int) (k : Nat) (v : Int) (m : Nat), k ≤ 9 → xs.length ≤ 4294967296 → 10 - k < m → loopS (fun s => qaz_B0 n s.1.1 s.1.2 s.2.1 s.2.2) m ((v, (k : Int)), (xs, false)) = some (varR xs k v)
  | [], k, v, m + 1, hk, hx, hm => by
    refine loopS_out ?_
    show qaz_B0 n v (k : Int) [] false = _
    unfold qaz_B0
    rw [take_eq n 1 [] false (by simp), Option.bind_some]
    rfl
  | x :: xs, k, v, m + 1, hk, hx, hm => by
    have ht : takeV 1 (x :: xs) false = ([x], xs, false) := by
      unfold takeV
      rw [if_neg (by simp; omega)]
      rfl
    have hB : qaz_B0 n v (k : Int) (x :: xs) false = if (k = 9 ∧ x > 1) ∨ (k > 0 ∧ x = 0) then some (Sum.inr (0, (xs, true))) else if x < 128 then some (Sum.inr (vstep v x k, (xs, false))) else some (Sum.inl ((vstep v x k, ((k + 1 : Nat) : Int)), (xs, false))) := by
      unfold qaz_B0
      rw [take_eq n 1 (x :: xs) false hx, ht, Option.bind_some]
      simp only [qas, Option.bind_some]
      rw [show getI [x] 0 = some x from rfl, show (lenI [x] == 0) = false from rfl, cond_false, Option.bind_some, (mul7 k hk).1, (mul7 k hk).2, next_i64 (by omega)]
      simp only [cond_true]
      have e9 : ((k : Int) == 9) = decide (k = 9) := by
        by_cases h : k = 9
        · subst h; rfl
        · rw [decide_eq_false h, beq_eq_false_iff_ne]; omega
      have e0 : decide ((k : Int) > 0) = decide (k > 0) := by
        by_cases h : k > 0
        · rw [decide_eq_true h, decide_eq_true (by omega)]
        · rw [decide_eq_false h, decide_eq_false (by omega)]
      rw [e9, e0]
      unfold vstep
      by_cases h9 : k = 9
      · subst h9
        by_cases hx1 : x > 1
        · rw [if_pos (.inl ⟨rfl, hx1⟩), decide_eq_true hx1]; rfl
        · by_cases hx0 : x = 0
          · subst hx0; rw [if_pos (.inr ⟨by omega, rfl⟩)]; rfl
          · rw [if_neg (by omega), decide_eq_false hx1, show (x == 0) = false from beq_eq_false_iff_ne.2 hx0, if_pos (by omega), decide_eq_true (by omega : x < 128)]; rfl
      · rw [decide_eq_false h9, cond_false]
        by_cases hk0 : k > 0
        · rw [decide_eq_true hk0, cond_true]
          by_cases hx0 : x = 0
          · subst hx0; rw [if_pos (.inr ⟨hk0, rfl⟩)]; rfl
          · rw [if_neg (by omega), show (x == 0) = false from beq_eq_false_iff_ne.2 hx0, cond_false]
            by_cases h128 : x < 128
            · rw [if_pos h128, decide_eq_true h128]; rfl
            · rw [if_neg h128, decide_eq_false h128]; rfl
        · rw [decide_eq_false hk0, cond_false, if_neg (by omega)]
          by_cases h128 : x < 128
          · rw [if_pos h128, decide_eq_true h128]; rfl
          · rw [if_neg h128, decide_eq_false h128]; rfl
    unfold varR
    by_cases hc : (k = 9 ∧ x > 1) ∨ (k > 0 ∧ x = 0)
    · rw [if_pos hc] at hB ⊢
      exact loopS_out hB
    · rw [if_neg hc] at hB ⊢
      by_cases h128 : x < 128
      · rw [if_pos h128] at hB ⊢
        exact loopS_out hB
      · rw [if_neg h128] at hB ⊢
        have hk9 : k ≠ 9 := by intro h; apply hc; left; exact ⟨h, by omega⟩
        rw [loopS_next (s := ((v, (k : Int)), (x :: xs, false))) hB]
        exact var_loop n xs (k + 1) (vstep v x k) m (by omega) (by simp at hx; omega) (by omega)
  | _, _, _, 0, _, _, hm => by omega
theorem var_eq (n : Nat) (xs : List Int) (bad : Bool) (hx : xs.length ≤ 4294967296) (hn : 20 ≤ n) : qaz n xs bad = some (varV xs bad) := by
  unfold qaz varV
  cases bad with
  | true =>
    have hB : qaz_B0 n 0 0 xs true = some (Sum.inr (0, (xs, true))) := by
      unfold qaz_B0
      rw [take_eq n 1 xs true hx, Option.bind_some]
      rfl
    have : qaz_W0 n ((0, 0), (xs, true)) = some (0, (xs, true)) := by
      obtain ⟨m, rfl⟩ : ∃ m, n = m + 1 := ⟨n - 1, by omega⟩
      exact loopS_out hB
    rw [this]; rfl
  | false =>
    have : qaz_W0 n ((0, 0), (xs, false)) = some (varR xs 0 0) := var_loop n xs 0 0 n (by omega) hx (by omega)
    rw [this]; rfl
theorem orI_range (a b : Int) : 0 ≤ orI .u64 a b ∧ orI .u64 a b ≤ 18446744073709551615 := by
  have h : ∀ n, IntKind.u64.wrap n = n % 18446744073709551616 := fun n => by simp [IntKind.wrap, IntKind.bits, IntKind.signed]
  unfold orI
  rw [h]
  omega
theorem varR_len : ∀ (xs : List Int) (k : Nat) (v : Int), (varR xs k v).2.1.length ≤ xs.length
  | [], k, v => Nat.le_refl _
  | x :: xs, k, v => by
    unfold varR
    split
    · simp
    · split
      · simp
      · have := varR_len xs (k + 1) (vstep v x k)
        simp; omega
theorem varR_range : ∀ (xs : List Int) (k : Nat) (v : Int), 0 ≤ (varR xs k v).1 ∧ (varR xs k v).1 ≤ 18446744073709551615
  | [], k, v => by simp [varR]
  | x :: xs, k, v => by
    unfold varR
    split
    · simp
    · split
      · exact orI_range _ _
      · exact varR_range xs (k + 1) (vstep v x k)
theorem varV_len (xs : List Int) (bad : Bool) : (varV xs bad).2.1.length ≤ xs.length := by
  unfold varV
  split
  · exact Nat.le_refl _
  · exact varR_len xs 0 0
theorem varV_range (xs : List Int) (bad : Bool) : 0 ≤ (varV xs bad).1 ∧ (varV xs bad).1 ≤ 18446744073709551615 := by
  unfold varV
  split
  · simp
  · exact varR_range xs 0 0
def countV (most : Int) (bad : Bool) (xs : List Int) (b : Bool) : Int × Bool × List Int × Bool :=
  if (varV xs b).2.2 = true ∨ (varV xs b).1 > most then (0, true, (varV xs b).2) else ((varV xs b).1, bad, (varV xs b).2)
theorem countV_len (most : Int) (bad : Bool) (xs : List Int) (b : Bool) : (countV most bad xs b).2.2.1.length ≤ xs.length := by
  unfold countV
  split <;> exact varV_len xs b
theorem countV_range (most : Int) (hm : 0 ≤ most) (bad : Bool) (xs : List Int) (b : Bool) : 0 ≤ (countV most bad xs b).1 ∧ (countV most bad xs b).1 ≤ most := by
  unfold countV
  have := varV_range xs b
  split
  · simp; exact hm
  · rename_i h
    constructor
    · exact this.1
    · have := fun h' => h (.inr h')
      simp only at this ⊢
      omega
theorem countR_eq (n : Nat) (most : Int) (recs : Int) (bad : Bool) (xs : List Int) (b : Bool) (hm : 0 ≤ most ∧ most ≤ 1000) (hx : xs.length ≤ 4294967296) (hn : 20 ≤ n) :
    ql n most recs bad xs b = some ((countV most bad xs b).1, ((recs, (countV most bad xs b).2.1), (countV most bad xs b).2.2)) := by
  unfold ql countV
  have hr := varV_range xs b
  rw [var_eq n xs b hx hn]
  simp only [qbb, Option.bind_some]
  rw [cvtI_u64 hm.1 (by omega)]
  cases hb : (varV xs b).2.2 with
  | true => rw [if_pos (.inl rfl)]; simp only [cond_true]; rw [← hb]
  | false =>
    simp only [cond_false, Bool.false_eq_true, false_or]
    by_cases h : (varV xs b).1 > most
    · rw [if_pos h, decide_eq_true h]; simp only [cond_true]; rw [← hb]
    · rw [if_neg h, decide_eq_false h, cvtI_i64 (by omega) (by omega)]; simp only [cond_false]; rw [← hb]
def rlistV {A : Type} (one : Bool → List Int → Bool → A × Bool × List Int × Bool) : Nat → List A → Bool → List Int → Bool → List A × Bool × List Int × Bool
  | 0, acc, bad, xs, b => (acc, bad, xs, b)
  | j + 1, acc, bad, xs, b => if bad = true then (acc, bad, xs, b) else rlistV one j (acc ++ [(one bad xs b).1]) (one bad xs b).2.1 (one bad xs b).2.2.1 (one bad xs b).2.2.2
theorem list_loop {A S X : Type} {B : S → Option (S ⊕ X)} {mk : Nat → List A → Bool → List Int → Bool → S} {fin : List A × Bool × List Int × Bool → X} {one : Bool → List Int → Bool → A × Bool × List Int × Bool} {t M : Nat}
    (h1 : ∀ bad xs b, (one bad xs b).2.2.1.length ≤ xs.length)
    (hB : ∀ i acc bad xs b, i < t → acc.length = i → xs.length ≤ M → B (mk i acc bad xs b) = if bad = true then some (.inr (fin (acc, bad, xs, b))) else some (.inl (mk (i + 1) (acc ++ [(one bad xs b).1]) (one bad xs b).2.1 (one bad xs b).2.2.1 (one bad xs b).2.2.2)))
    (he : ∀ acc bad xs b, B (mk t acc bad xs b) = some (.inr (fin (acc, bad, xs, b)))) : ∀ (j i n : Nat) (acc : List A) (bad : Bool) (xs : List Int) (b : Bool), i + j = t → j < n → acc.length = i → xs.length ≤ M →
    loopS B n (mk i acc bad xs b) = some (fin (rlistV one j acc bad xs b))
  | 0, i, n + 1, acc, bad, xs, b, hi, hn, ha, hx => by
    obtain rfl : i = t := by omega
    exact loopS_out (he acc bad xs b)
  | j + 1, i, n + 1, acc, bad, xs, b, hi, hn, ha, hx => by
    have h := hB i acc bad xs b (by omega) ha hx
    unfold rlistV
    cases bad with
    | true => exact loopS_out h
    | false =>
      rw [if_neg (by simp)] at h ⊢
      rw [loopS_next h]
      exact list_loop h1 hB he j (i + 1) n _ _ _ _ (by omega) (by omega) (by simp [ha]) (Nat.le_trans (h1 _ _ _) hx)
  | _, _, 0, _, _, _, _, _, hn, _, _ => by omega
theorem rlistV_len {A : Type} {one : Bool → List Int → Bool → A × Bool × List Int × Bool} (h1 : ∀ bad xs b, (one bad xs b).2.2.1.length ≤ xs.length) : ∀ (j : Nat) (acc : List A) (bad : Bool) (xs : List Int) (b : Bool), (rlistV one j acc bad xs b).2.2.1.length ≤ xs.length
  | 0, acc, bad, xs, b => Nat.le_refl _
  | j + 1, acc, bad, xs, b => by
    unfold rlistV
    split
    · exact Nat.le_refl _
    · exact Nat.le_trans (rlistV_len h1 j _ _ _ _) (h1 _ _ _)
theorem rlistV_all {A : Type} {one : Bool → List Int → Bool → A × Bool × List Int × Bool} {p : A → Prop} (h1 : ∀ bad xs b, p (one bad xs b).1) : ∀ (j : Nat) (acc : List A) (bad : Bool) (xs : List Int) (b : Bool), (∀ x ∈ acc, p x) → ∀ x ∈ (rlistV one j acc bad xs b).1, p x
  | 0, acc, bad, xs, b, h => h
  | j + 1, acc, bad, xs, b, h => by
    unfold rlistV
    split
    · exact h
    · exact rlistV_all h1 j _ _ _ _ (fun x hx => by
        rcases List.mem_append.1 hx with hx | hx
        · exact h x hx
        · rw [List.mem_singleton.1 hx]; exact h1 _ _ _)
def clistV {A : Type} (one : Bool → List Int → Bool → A × Bool × List Int × Bool) (most : Int) (bad : Bool) (xs : List Int) (b : Bool) : List A × Bool × List Int × Bool :=
  rlistV one (countV most bad xs b).1.toNat [] (countV most bad xs b).2.1 (countV most bad xs b).2.2.1 (countV most bad xs b).2.2.2
theorem clistV_len {A : Type} {one : Bool → List Int → Bool → A × Bool × List Int × Bool} (h1 : ∀ bad xs b, (one bad xs b).2.2.1.length ≤ xs.length) (most : Int) (bad : Bool) (xs : List Int) (b : Bool) : (clistV one most bad xs b).2.2.1.length ≤ xs.length :=
  Nat.le_trans (rlistV_len h1 _ _ _ _ _) (countV_len most bad xs b)
def getV (recs : Int) (xs : List Int) (b : Bool) : TyD × Bool × List Int × Bool :=
  let r := varV xs b
  let q := varV r.2.1 r.2.2
  if q.2.2 = true ∨ r.1 > 8 ∨ q.1 > 255 ∨ goodV recs (r.1, q.1) = false then ((0, 0), false, q.2) else ((r.1, q.1), true, q.2)
theorem getV_len (recs : Int) (xs : List Int) (b : Bool) : (getV recs xs b).2.2.1.length ≤ xs.length := by
  unfold getV
  simp only
  split <;> exact Nat.le_trans (varV_len _ _) (varV_len xs b)
theorem qcl_eq (n : Nat) (recs : Int) (xs : List Int) (b : Bool) (hx : xs.length ≤ 4294967296) (hn : 20 ≤ n) : qcl n recs xs b = some (((getV recs xs b).1, (getV recs xs b).2.1), (getV recs xs b).2.2) := by
  unfold qcl getV
  have hl := varV_len xs b
  rw [var_eq n xs b hx hn, Option.bind_some, var_eq n _ _ (by omega) hn]
  simp only [qbb, Option.bind_some]
  have h1 := varV_range xs b
  have h2 := varV_range (varV xs b).2.1 (varV xs b).2.2
  generalize varV xs b = r at h1 h2 hl ⊢
  generalize varV r.2.1 r.2.2 = q at h2 ⊢
  obtain ⟨v, xs1, b1⟩ := r
  obtain ⟨u, xs2, b2⟩ := q
  simp only at h1 h2 ⊢
  cases b2 with
  | true => rw [if_pos (.inl rfl)]; rfl
  | false =>
    simp only [cond_false, Bool.false_eq_true, false_or]
    by_cases e1 : v > 8
    · rw [if_pos (.inl e1), decide_eq_true e1]; rfl
    · rw [decide_eq_false e1, cond_false]
      by_cases e2 : u > 255
      · rw [if_pos (.inr (.inl e2)), decide_eq_true e2]; rfl
      · rw [decide_eq_false e2, cond_false, cvtI_i64 (by omega) (by omega), cvtI_i64 (by omega) (by omega), show qci n v u recs = some (goodV recs (v, u)) from good_eq n (v, u) recs, Option.bind_some]
        cases hg : goodV recs (v, u) with
        | true => rw [if_neg (by simp [e1, e2])]; rfl
        | false => rw [if_pos (by simp)]; rfl
def oneV (recs : Int) (bad : Bool) (xs : List Int) (b : Bool) : TyD × Bool × List Int × Bool := ((getV recs xs b).1, bad || !(getV recs xs b).2.1, (getV recs xs b).2.2)
theorem one_eq (n : Nat) (recs : Int) (bad : Bool) (xs : List Int) (b : Bool) (hx : xs.length ≤ 4294967296) (hn : 20 ≤ n) : qz n recs bad xs b = some ((oneV recs bad xs b).1, ((recs, (oneV recs bad xs b).2.1), (oneV recs bad xs b).2.2)) := by
  unfold qz oneV
  rw [qcl_eq n recs xs b hx hn, Option.bind_some]
  cases bad <;> rfl
theorem listTypes_eq (n : Nat) (most recs : Int) (bad : Bool) (xs : List Int) (b : Bool) (hm : 0 ≤ most ∧ most ≤ 1000) (hx : xs.length ≤ 4294967296) (hn : 2000 ≤ n) :
    qd n most recs bad xs b = some ((clistV (oneV recs) most bad xs b).1, ((recs, (clistV (oneV recs) most bad xs b).2.1), (clistV (oneV recs) most bad xs b).2.2)) := by
  unfold qd
  rw [countR_eq n most recs bad xs b hm hx (by omega), Option.bind_some]
  unfold clistV
  have hc := countV_range most hm.1 bad xs b
  have hl := countV_len most bad xs b
  generalize countV most bad xs b = c at hc hl ⊢
  obtain ⟨c0, bad1, xs1, b1⟩ := c
  simp only at hc hl ⊢
  obtain ⟨t, rfl⟩ : ∃ t : Nat, c0 = (t : Int) := ⟨c0.toNat, by omega⟩
  have h := list_loop (B := fun s => qd_B0 n s.1.1 s.1.2 s.2.1.1 s.2.1.2 s.2.2.1.1 s.2.2.1.2 s.2.2.2) (mk := fun (i : Nat) acc bad xs b => (((t : Int), (i : Int)), ((recs, bad), ((xs, b), acc)))) (fin := fun r => ((recs, r.2.1), (r.2.2, r.1))) (one := oneV recs) (t := t) (M := 4294967296) (fun bad xs b => getV_len recs xs b)
    (fun i acc bad xs b hi ha hx => by
      show qd_B0 n (t : Int) (i : Int) recs bad xs b acc = _
      unfold qd_B0
      rw [decide_eq_true (by omega), cond_true, one_eq n recs bad xs b hx (by omega), Option.bind_some, next_i64 (by omega), fits_le (by simp; omega), cond_true]
      cases bad <;> rfl)
    (fun acc bad xs b => by
      show qd_B0 n (t : Int) (t : Int) recs bad xs b acc = _
      unfold qd_B0
      rw [decide_eq_false (by omega), cond_false]) t 0 n [] bad1 xs1 b1 (by omega) (by omega) rfl (by omega)
  rw [show qd_W0 n (((t : Int), 0), ((recs, bad1), ((xs1, b1), []))) = _ from h, Option.bind_some]
  rfl
end Sx
