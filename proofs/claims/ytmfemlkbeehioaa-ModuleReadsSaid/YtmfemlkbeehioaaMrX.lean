/- Decode, of whatever bytes: nothing, or the module whose bytes they are. -/
import Derived.Test.YtmfemlkbeehioaaMrW
set_option linter.unusedVariables false
set_option linter.unusedSimpArgs false
namespace Sx
open Go Go.Ab
def emptyM : ModD := ⟨[], [], [], [], []⟩
theorem getV_ok (recs : Int) (xs : List Int) (b : Bool) : okT (getV recs xs b).1 := by
  unfold getV
  simp only
  have h1 := varV_range xs b
  have h2 := varV_range (varV xs b).2.1 (varV xs b).2.2
  split
  · exact ⟨by unfold okI; simp, by unfold okI; simp⟩
  · rename_i h
    have e1 : (varV xs b).1 ≤ 8 := Int.not_lt.mp fun h' => h (.inr (.inl h'))
    have e2 : (varV (varV xs b).2.1 (varV xs b).2.2).1 ≤ 255 := Int.not_lt.mp fun h' => h (.inr (.inr (.inl h')))
    exact ⟨by unfold okI; simp only; omega, by unfold okI; simp only; omega⟩
theorem clistV_all {A : Type} {one : Bool → List Int → Bool → A × Bool × List Int × Bool} {p : A → Prop} (h1 : ∀ bad xs b, p (one bad xs b).1) (most : Int) (bad : Bool) (xs : List Int) (b : Bool) : ∀ x ∈ (clistV one most bad xs b).1, p x :=
  rlistV_all h1 _ _ _ _ _ (fun x hx => by cases hx)
theorem oneV_ok (recs : Int) (bad : Bool) (xs : List Int) (b : Bool) : okT (oneV recs bad xs b).1 := getV_ok recs xs b
theorem types_ok (recs most : Int) (bad : Bool) (xs : List Int) (b : Bool) : okTs (clistV (oneV recs) most bad xs b).1 := clistV_all (p := okT) (oneV_ok recs) most bad xs b
theorem recV_ok (recs : Int) (bad : Bool) (xs : List Int) (b : Bool) : okTs (recV recs bad xs b).1 := types_ok recs 6 bad xs b
theorem funcV_ok (recs : Int) (bad : Bool) (xs : List Int) (b : Bool) : okTs (funcV recs bad xs b).1.1 ∧ okT ((funcV recs bad xs b).1.2.1, (funcV recs bad xs b).1.2.2.1) ∧ okTs (funcV recs bad xs b).1.2.2.2.1 := by
  unfold funcV
  simp only
  exact ⟨types_ok _ _ _ _ _, (show okT (oneV recs (clistV (oneV recs) 4 bad xs b).2.1 (clistV (oneV recs) 4 bad xs b).2.2.1 (clistV (oneV recs) 4 bad xs b).2.2.2).1 from oneV_ok recs _ _ _), types_ok _ _ _ _ _⟩
theorem hostV_ok (recs : Int) (bad : Bool) (xs : List Int) (b : Bool) : okTs (hostV recs bad xs b).1.1 ∧ okT ((hostV recs bad xs b).1.2.1, (hostV recs bad xs b).1.2.2) := by
  unfold hostV
  simp only
  exact ⟨types_ok _ _ _ _ _, (show okT (oneV recs (clistV (oneV recs) 4 bad xs b).2.1 (clistV (oneV recs) 4 bad xs b).2.2.1 (clistV (oneV recs) 4 bad xs b).2.2.2).1 from oneV_ok recs _ _ _)⟩
noncomputable def readV (p0 p1 p2 p3 p4 : List Int) : ModD :=
  let r := (clistV (recV (min (varV p0 false).1 8)) 8 false p0 false).1
  ⟨r, (clistV (funcV r.length) 8 false p1 false).1, (clistV (hostV r.length) 8 false p2 false).1, (clistV (u64V r.length) 16 false p3 false).1, (clistV (textV r.length) 16 false p4 false).1⟩
theorem readV_ok (p0 p1 p2 p3 p4 : List Int) : OkM (readV p0 p1 p2 p3 p4) := by
  unfold readV
  simp only
  exact ⟨clistV_all (p := okTs) (recV_ok _) _ _ _ _, clistV_all (p := fun f : FnD => okTs f.1 ∧ okT (f.2.1, f.2.2.1) ∧ okTs f.2.2.2.1) (funcV_ok _) _ _ _ _, clistV_all (p := fun f : ImD => okTs f.1 ∧ okT (f.2.1, f.2.2)) (hostV_ok _) _ _ _ _,
    clistV_all (p := fun v : Int => 0 ≤ v ∧ v ≤ 18446744073709551615) (fun bad xs b => fixV_range _) _ _ _ _⟩
theorem newR (n : Nat) (p : List Int) (h : p.length ≤ 1000000) : qbd n p = some (p, false) := by
  unfold qbd
  rw [fits_le (by omega), cond_true]
theorem decode_parts (n : Nat) (t0 p0 p1 p2 p3 p4 : List Int) (hs : qcb n t0 5 = some ([p0, p1, p2, p3, p4], 0)) (h0 : p0.length ≤ 1000000) (h1 : p1.length ≤ 1000000) (h2 : p2.length ≤ 1000000) (h3 : p3.length ≤ 1000000) (h4 : p4.length ≤ 1000000) (hn : 6000 ≤ n) :
    qba n t0 = some (if fitsV (readV p0 p1 p2 p3 p4) = true ∧ eqS (intsBytes (encV (readV p0 p1 p2 p3 p4))) (intsBytes t0) = true then (mtup (readV p0 p1 p2 p3 p4), 0) else (mtup emptyM, 2)) := by
  have ho := readV_ok p0 p1 p2 p3 p4
  have hr := varV_range p0 false
  unfold qba
  rw [hs, Option.bind_some]
  simp only [qau, qx, qw, qag, qae]
  rw [show ((0 : Int) != 0) = false from rfl, cond_false, show (lenI [p0, p1, p2, p3, p4] != 5) = false from rfl, cond_false]
  rw [show getI [p0, p1, p2, p3, p4] 0 = some p0 from rfl, Option.bind_some, newR n p0 h0, Option.bind_some, Option.bind_some]
  simp only
  rw [show getI [p0, p1, p2, p3, p4] 0 = some p0 from rfl, Option.bind_some, newR n p0 h0, Option.bind_some, var_eq n p0 false (by omega) (by omega), Option.bind_some]
  have hmin : cvtI .i64 (minI (varV p0 false).1 8) = min (varV p0 false).1 8 := by
    have : minI (varV p0 false).1 8 = min (varV p0 false).1 8 := by
      unfold minI
      by_cases h : 8 < (varV p0 false).1
      · rw [decide_eq_true h]; simp only [cond_true]; omega
      · rw [decide_eq_false h]; simp only [cond_false]; omega
    rw [this, cvtI_i64 (by omega) (by omega)]
  rw [hmin, qk_eq n 8 _ false p0 false (by omega) (by omega) (by omega), Option.bind_some]
  simp only
  rw [show getI [p0, p1, p2, p3, p4] 1 = some p1 from rfl, Option.bind_some, newR n p1 h1, Option.bind_some, Option.bind_some]
  simp only
  rw [lenI_eq, qn_eq n 8 _ false p1 false (by omega) (by omega) (by omega), Option.bind_some]
  simp only
  rw [show getI [p0, p1, p2, p3, p4] 2 = some p2 from rfl, Option.bind_some, newR n p2 h2, Option.bind_some, Option.bind_some]
  simp only
  rw [lenI_eq, qb_eq n 8 _ false p2 false (by omega) (by omega) (by omega), Option.bind_some]
  simp only
  rw [show getI [p0, p1, p2, p3, p4] 3 = some p3 from rfl, Option.bind_some, newR n p3 h3, Option.bind_some, Option.bind_some]
  simp only
  rw [lenI_eq, qr_eq n 16 _ false p3 false (by omega) (by omega) (by omega), Option.bind_some]
  simp only
  rw [show getI [p0, p1, p2, p3, p4] 4 = some p4 from rfl, Option.bind_some, newR n p4 h4, Option.bind_some, Option.bind_some]
  simp only
  rw [qu_eq n 16 _ false p4 false (by omega) (by omega) (by omega), Option.bind_some]
  have he := encode_eq n (readV p0 p1 p2 p3 p4) ho (by omega)
  show (qbf n (readV p0 p1 p2 p3 p4).recs (readV p0 p1 p2 p3 p4).funcs (readV p0 p1 p2 p3 p4).imps (readV p0 p1 p2 p3 p4).ints (readV p0 p1 p2 p3 p4).texts).bind (fun r437 => bif r437.2 != 0 then some (mtup emptyM, (2 : Int)) else bif !(eqS (intsBytes r437.1) (intsBytes t0)) then some (mtup emptyM, 2) else some (mtup (readV p0 p1 p2 p3 p4), 0)) = _
  rw [he, Option.bind_some]
  generalize readV p0 p1 p2 p3 p4 = m
  cases hf : fitsV m with
  | false => rw [if_neg (by simp), if_neg (by simp)]; rfl
  | true =>
    rw [if_pos rfl]
    show (bif !(eqS (intsBytes (encV m)) (intsBytes t0)) then some (mtup emptyM, (2 : Int)) else some (mtup m, 0)) = _
    cases eqS (intsBytes (encV m)) (intsBytes t0) <;> rfl
theorem decode_tot (n : Nat) (t0 : List Int) (hx : t0.length ≤ 1000000) (hb : Bytes t0) (hn : 6000 ≤ n) :
    qba n t0 = some (mtup emptyM, 2) ∨ ∃ m, qba n t0 = some (mtup m, 0) ∧ OkM m ∧ fitsV m = true ∧ encV m = t0 := by
  obtain ⟨parts, e, hs, hp⟩ := split_tot n t0 hx hn
  by_cases he : e = 0
  · subst he
    by_cases h5 : parts.length = 5
    · match parts, h5, hp, hs with
      | [p0, p1, p2, p3, p4], _, hp, hs =>
        rw [decode_parts n t0 p0 p1 p2 p3 p4 hs (hp p0 (by simp)) (hp p1 (by simp)) (hp p2 (by simp)) (hp p3 (by simp)) (hp p4 (by simp)) hn]
        have ho := readV_ok p0 p1 p2 p3 p4
        generalize readV p0 p1 p2 p3 p4 = m at ho ⊢
        by_cases hc : fitsV m = true ∧ eqS (intsBytes (encV m)) (intsBytes t0) = true
        · rw [if_pos hc]
          refine .inr ⟨m, rfl, ho, hc.1, ?_⟩
          have := hc.2
          rw [bytes_eq (encV_bytes ho hc.1) hb] at this
          exact of_decide_eq_true this
        · rw [if_neg hc]; exact .inl rfl
    · left
      unfold qba
      rw [hs, Option.bind_some]
      show (bif ((0 : Int) != 0) then _ else bif (lenI parts != 5) then some (mtup emptyM, (2 : Int)) else _) = _
      rw [show ((0 : Int) != 0) = false from rfl, cond_false, show (lenI parts != 5) = true from by rw [lenI_eq]; exact bne_iff_ne.2 (by omega), cond_true]
  · left
    unfold qba
    rw [hs, Option.bind_some]
    show (bif (e != 0) then some (mtup emptyM, (2 : Int)) else _) = _
    rw [show (e != 0) = true from bne_iff_ne.2 he, cond_true]
end Sx
