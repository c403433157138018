/- What may be a module, and its bytes: what the program's functions come to. -/
import Derived.Test.YtmfemlkbeehioaaMrB
set_option linter.unusedVariables false
set_option linter.unusedSimpArgs false
namespace Sx
open Go Go.Ab
abbrev TyD := Int × Int
abbrev InD := Int × Int × Int
abbrev FnD := List TyD × Int × Int × List TyD × List InD
abbrev ImD := List TyD × Int × Int
def goodsV (recs most : Int) (l : List TyD) : Bool := decide ((l.length : Int) ≤ most) && l.all (goodV recs)
theorem findType (n : Nat) (l : List TyD) (recs : Int) (hl : l.length ≤ 4294967000) (hn : l.length < n) : qt n l recs = some (l.any (fun t => !goodV recs t), recs) := by
  unfold qt qan
  have h := loop_search (B := fun s => qan_B0 n s.1.1 s.1.2.1 s.1.2.2 s.2) (xs := l) (mk := fun i => ((l, (lenI l, (i : Int))), recs)) (p := fun t => !goodV recs t) (found := fun i x => Sum.inl ((i : Int), recs)) (e := Sum.inr recs)
    (fun i x hx => ?_) ?_ l.length 0 n (by omega) hn
  · rw [List.drop_zero] at h
    rcases h with ⟨h1, k, x, _, _, h2⟩ | ⟨h1, h2⟩
    · rw [show qan_W0 n ((l, (lenI l, 0)), recs) = some (Sum.inl ((k : Int), recs)) from h2, h1]
      show some (decide ((k : Int) ≥ 0), recs) = _
      rw [decide_eq_true (by omega)]
    · rw [show qan_W0 n ((l, (lenI l, 0)), recs) = some (Sum.inr recs) from h2, h1]
      rfl
  · have hi := lt_of_get hx
    show qan_B0 n l (lenI l) (i : Int) recs = _
    unfold qan_B0 qbj
    rw [lenI_eq, decide_eq_true (by omega), cond_true, getI_nat, hx, Option.bind_some, good_eq, Option.bind_some, Option.bind_some, next_i64 (by omega)]
    cases goodV recs x <;> rfl
  · show qan_B0 n l (lenI l) (l.length : Int) recs = _
    unfold qan_B0
    rw [lenI_eq, decide_eq_false (by omega), cond_false]
theorem any_not {α : Type} (p : α → Bool) (l : List α) : (!l.any fun t => !p t) = l.all p := by
  induction l with
  | nil => rfl
  | cons x l ih => rw [List.any_cons, List.all_cons, ← ih]; cases p x <;> simp
theorem goods_eq (n : Nat) (l : List TyD) (recs most : Int) (hl : l.length ≤ 4294967000) (hn : l.length < n) : qbt n l recs most = some (goodsV recs most l) := by
  unfold qbt goodsV
  rw [lenI_eq, findType n l recs hl hn, Option.bind_some]
  show (bif decide ((l.length : Int) ≤ most) then some (!l.any fun t => !goodV recs t) else some false) = _
  rw [any_not]
  cases decide ((l.length : Int) ≤ most) <;> rfl
theorem goods_eq' (n : Nat) (l : List TyD) (recs most : Int) (hm : most ≤ 64) (hn : 100 ≤ n) : qbt n l recs most = some (goodsV recs most l) := by
  by_cases h : (l.length : Int) ≤ most
  · exact goods_eq n l recs most (by omega) (by omega)
  · unfold qbt goodsV
    rw [lenI_eq, decide_eq_false h, cond_false]
    rfl
theorem findTypes (n : Nat) (l : List (List TyD)) (recs : Int) (hl : l.length ≤ 64) (hn : 100 ≤ n) : qg n l recs = some (l.any (fun t => !goodsV recs 6 t), recs) := by
  unfold qg qy
  have h := loop_search (B := fun s => qy_B0 n s.1.1 s.1.2.1 s.1.2.2 s.2) (xs := l) (mk := fun i => ((l, (lenI l, (i : Int))), recs)) (p := fun t => !goodsV recs 6 t) (found := fun i x => Sum.inl ((i : Int), recs)) (e := Sum.inr recs)
    (fun i x hx => ?_) ?_ l.length 0 n (by omega) (by omega)
  · rw [List.drop_zero] at h
    rcases h with ⟨h1, k, x, _, _, h2⟩ | ⟨h1, h2⟩
    · rw [show qy_W0 n ((l, (lenI l, 0)), recs) = some (Sum.inl ((k : Int), recs)) from h2, h1]
      show some (decide ((k : Int) ≥ 0), recs) = _
      rw [decide_eq_true (by omega)]
    · rw [show qy_W0 n ((l, (lenI l, 0)), recs) = some (Sum.inr recs) from h2, h1]
      rfl
  · have hi := lt_of_get hx
    show qy_B0 n l (lenI l) (i : Int) recs = _
    unfold qy_B0 qbn
    rw [lenI_eq, decide_eq_true (by omega), cond_true, getI_nat, hx, Option.bind_some, goods_eq' n x recs 6 (by omega) hn, Option.bind_some, Option.bind_some, next_i64 (by omega)]
    cases goodsV recs 6 x <;> rfl
  · show qy_B0 n l (lenI l) (l.length : Int) recs = _
    unfold qy_B0
    rw [lenI_eq, decide_eq_false (by omega), cond_false]
theorem findInstr (n : Nat) (l : List InD) (hl : l.length ≤ 64) (hn : 100 ≤ n) : qo n l = some (l.any badI) := by
  unfold qo qai
  have h := loop_search (B := fun s => qai_B0 n s.1 s.2.1 s.2.2) (xs := l) (mk := fun i => (l, (lenI l, (i : Int)))) (p := badI) (found := fun i x => Sum.inl (i : Int)) (e := Sum.inr ())
    (fun i x hx => ?_) ?_ l.length 0 n (by omega) (by omega)
  · rw [List.drop_zero] at h
    rcases h with ⟨h1, k, x, _, _, h2⟩ | ⟨h1, h2⟩
    · rw [show qai_W0 n (l, (lenI l, 0)) = some (Sum.inl (k : Int)) from h2, h1]
      show some (decide ((k : Int) ≥ 0)) = _
      rw [decide_eq_true (by omega)]
    · rw [show qai_W0 n (l, (lenI l, 0)) = some (Sum.inr ()) from h2, h1]
      rfl
  · have hi := lt_of_get hx
    show qai_B0 n l (lenI l) (i : Int) = _
    unfold qai_B0 qah
    rw [lenI_eq, decide_eq_true (by omega), cond_true, getI_nat, hx, Option.bind_some, qcn_eq n x (by omega), Option.bind_some, Option.bind_some, next_i64 (by omega), lenI_eq]
    have : (((putV x).length : Int) == 0) = badI x := by
      rw [← putV_nil]
      cases (putV x).length <;> rfl
    rw [this]
    cases badI x <;> rfl
  · show qai_B0 n l (lenI l) (l.length : Int) = _
    unfold qai_B0
    rw [lenI_eq, decide_eq_false (by omega), cond_false]
def fitF (recs : Int) (f : FnD) : Bool :=
  goodsV recs 4 f.1 && (goodV recs (f.2.1, f.2.2.1) && (goodsV recs (8 - (f.1.length : Int)) f.2.2.2.1 && (decide (1 ≤ f.2.2.2.2.length) && (decide (f.2.2.2.2.length ≤ 64) && !f.2.2.2.2.any badI))))
theorem fitF_eq (n : Nat) (f : FnD) (recs : Int) (hn : 100 ≤ n) : qam n f.1 f.2.1 f.2.2.1 f.2.2.2.1 f.2.2.2.2 recs = some (fitF recs f) := by
  obtain ⟨a, k, m, l, c⟩ := f
  unfold qam fitF
  rw [goods_eq' n a recs 4 (by omega) hn, Option.bind_some]
  simp only []
  cases hg : goodsV recs 4 a with
  | false => rfl
  | true =>
    have ha : (a.length : Int) ≤ 4 := by
      simp only [goodsV, Bool.and_eq_true, decide_eq_true_eq] at hg
      exact hg.1
    rw [cond_true, good_eq n (k, m) recs, Option.bind_some]
    cases goodV recs (k, m) with
    | false => rfl
    | true =>
      rw [cond_true, lenI_eq, subI_i64 (by omega) (by omega), goods_eq' n l recs _ (by omega) hn, Option.bind_some]
      cases goodsV recs (8 - (a.length : Int)) l with
      | false => rfl
      | true =>
        rw [cond_true, lenI_eq]
        by_cases h1 : 1 ≤ c.length
        · rw [decide_eq_true (by omega), cond_true, decide_eq_true h1]
          by_cases h2 : c.length ≤ 64
          · rw [decide_eq_true (by omega), cond_true, decide_eq_true h2, findInstr n c h2 hn, Option.bind_some]
            simp
          · rw [decide_eq_false (by omega), cond_false, decide_eq_false h2]
            rfl
        · rw [decide_eq_false (by omega), cond_false, decide_eq_false h1]
          rfl
theorem findFunc (n : Nat) (l : List FnD) (recs : Int) (hl : l.length ≤ 64) (hn : 100 ≤ n) : qs n l recs = some (l.any (fun t => !fitF recs t), recs) := by
  unfold qs qaw
  have h := loop_search (B := fun s => qaw_B0 n s.1.1 s.1.2.1 s.1.2.2 s.2) (xs := l) (mk := fun i => ((l, (lenI l, (i : Int))), recs)) (p := fun t => !fitF recs t) (found := fun i x => Sum.inl ((i : Int), recs)) (e := Sum.inr recs)
    (fun i x hx => ?_) ?_ l.length 0 n (by omega) (by omega)
  · rw [List.drop_zero] at h
    rcases h with ⟨h1, k, x, _, _, h2⟩ | ⟨h1, h2⟩
    · rw [show qaw_W0 n ((l, (lenI l, 0)), recs) = some (Sum.inl ((k : Int), recs)) from h2, h1]
      show some (decide ((k : Int) ≥ 0), recs) = _
      rw [decide_eq_true (by omega)]
    · rw [show qaw_W0 n ((l, (lenI l, 0)), recs) = some (Sum.inr recs) from h2, h1]
      rfl
  · have hi := lt_of_get hx
    show qaw_B0 n l (lenI l) (i : Int) recs = _
    unfold qaw_B0 qbo
    rw [lenI_eq, decide_eq_true (by omega), cond_true, getI_nat, hx, Option.bind_some, fitF_eq n x recs hn, Option.bind_some, Option.bind_some, next_i64 (by omega)]
    cases fitF recs x <;> rfl
  · show qaw_B0 n l (lenI l) (l.length : Int) recs = _
    unfold qaw_B0
    rw [lenI_eq, decide_eq_false (by omega), cond_false]
def fitI (recs : Int) (i : ImD) : Bool := goodsV recs 4 i.1 && goodV recs (i.2.1, i.2.2)
theorem findImport (n : Nat) (l : List ImD) (recs : Int) (hl : l.length ≤ 64) (hn : 100 ≤ n) : qe n l recs = some (l.any (fun t => !fitI recs t), recs) := by
  unfold qe qaa
  have h := loop_search (B := fun s => qaa_B0 n s.1.1 s.1.2.1 s.1.2.2 s.2) (xs := l) (mk := fun i => ((l, (lenI l, (i : Int))), recs)) (p := fun t => !fitI recs t) (found := fun i x => Sum.inl ((i : Int), recs)) (e := Sum.inr recs)
    (fun i x hx => ?_) ?_ l.length 0 n (by omega) (by omega)
  · rw [List.drop_zero] at h
    rcases h with ⟨h1, k, x, _, _, h2⟩ | ⟨h1, h2⟩
    · rw [show qaa_W0 n ((l, (lenI l, 0)), recs) = some (Sum.inl ((k : Int), recs)) from h2, h1]
      show some (decide ((k : Int) ≥ 0), recs) = _
      rw [decide_eq_true (by omega)]
    · rw [show qaa_W0 n ((l, (lenI l, 0)), recs) = some (Sum.inr recs) from h2, h1]
      rfl
  · have hi := lt_of_get hx
    show qaa_B0 n l (lenI l) (i : Int) recs = _
    unfold qaa_B0 qbi
    rw [lenI_eq, decide_eq_true (by omega), cond_true, getI_nat, hx, Option.bind_some, goods_eq' n x.1 recs 4 (by omega) hn, Option.bind_some, next_i64 (by omega)]
    unfold fitI
    cases goodsV recs 4 x.1 with
    | false => rfl
    | true =>
      rw [Bool.not_true, cond_false, good_eq n (x.2.1, x.2.2) recs, Option.bind_some, Option.bind_some]
      cases goodV recs (x.2.1, x.2.2) <;> rfl
  · show qaa_B0 n l (lenI l) (l.length : Int) recs = _
    unfold qaa_B0
    rw [lenI_eq, decide_eq_false (by omega), cond_false]
theorem findString (n : Nat) (l : List ByteArray) (hl : l.length ≤ 64) (hn : 100 ≤ n) : qh n l = some (l.any (fun s => decide (s.size > 32))) := by
  unfold qh qaf
  have h := loop_search (B := fun s => qaf_B0 n s.1 s.2.1 s.2.2) (xs := l) (mk := fun i => (l, (lenI l, (i : Int)))) (p := fun s => decide (s.size > 32)) (found := fun i x => Sum.inl (i : Int)) (e := Sum.inr ())
    (fun i x hx => ?_) ?_ l.length 0 n (by omega) (by omega)
  · rw [List.drop_zero] at h
    rcases h with ⟨h1, k, x, _, _, h2⟩ | ⟨h1, h2⟩
    · rw [show qaf_W0 n (l, (lenI l, 0)) = some (Sum.inl (k : Int)) from h2, h1]
      show some (decide ((k : Int) ≥ 0)) = _
      rw [decide_eq_true (by omega)]
    · rw [show qaf_W0 n (l, (lenI l, 0)) = some (Sum.inr ()) from h2, h1]
      rfl
  · have hi := lt_of_get hx
    show qaf_B0 n l (lenI l) (i : Int) = _
    unfold qaf_B0 qbk
    rw [lenI_eq, decide_eq_true (by omega), cond_true, getI_nat, hx, Option.bind_some, Option.bind_some, next_i64 (by omega)]
    have : decide (lenS x > 32) = decide (x.size > 32) := by
      unfold lenS
      by_cases h : x.size > 32
      · rw [decide_eq_true h, decide_eq_true (by omega)]
      · rw [decide_eq_false h, decide_eq_false (by omega)]
    rw [this]
    cases decide (x.size > 32) <;> rfl
  · show qaf_B0 n l (lenI l) (l.length : Int) = _
    unfold qaf_B0
    rw [lenI_eq, decide_eq_false (by omega), cond_false]
structure ModD where
  recs : List (List TyD)
  funcs : List FnD
  imps : List ImD
  ints : List Int
  texts : List ByteArray
def fitsV (m : ModD) : Bool :=
  decide (m.recs.length ≤ 8) && (m.recs.all (goodsV m.recs.length 6) && (decide (1 ≤ m.funcs.length) && (decide (m.funcs.length ≤ 8) && (m.funcs.all (fitF m.recs.length) &&
    (decide (m.imps.length ≤ 8) && (m.imps.all (fitI m.recs.length) && (decide (m.ints.length ≤ 16) && (decide (m.texts.length ≤ 16) && m.texts.all fun s => decide (s.size ≤ 32)))))))))
theorem any_gt (l : List ByteArray) : (!l.any fun s => decide (s.size > 32)) = l.all fun s => decide (s.size ≤ 32) := by
  rw [← any_not]
  congr 2
  funext s
  by_cases h : s.size > 32
  · rw [decide_eq_true h, decide_eq_false (by omega)]; rfl
  · rw [decide_eq_false h, decide_eq_true (by omega)]; rfl
theorem fits_eq (n : Nat) (m : ModD) (hn : 100 ≤ n) : qbx n m.recs m.funcs m.imps m.ints m.texts = some (fitsV m) := by
  unfold qbx fitsV
  rw [lenI_eq m.recs, lenI_eq m.funcs, lenI_eq m.imps, lenI_eq m.ints, lenI_eq m.texts]
  by_cases h1 : m.recs.length ≤ 8
  · rw [decide_eq_true (by omega : (m.recs.length : Int) ≤ 8), cond_true, decide_eq_true h1, findTypes n m.recs _ (by omega) hn, Option.bind_some, any_not, Bool.true_and]
    cases m.recs.all (goodsV m.recs.length 6) with
    | false => rfl
    | true =>
      rw [cond_true, Bool.true_and]
      by_cases h2 : 1 ≤ m.funcs.length
      · rw [decide_eq_true (by omega : (m.funcs.length : Int) ≥ 1), cond_true, decide_eq_true h2, Bool.true_and]
        by_cases h3 : m.funcs.length ≤ 8
        · rw [decide_eq_true (by omega : (m.funcs.length : Int) ≤ 8), cond_true, decide_eq_true h3, findFunc n m.funcs _ (by omega) hn, Option.bind_some, any_not, Bool.true_and]
          cases m.funcs.all (fitF m.recs.length) with
          | false => rfl
          | true =>
            rw [cond_true, Bool.true_and]
            by_cases h4 : m.imps.length ≤ 8
            · rw [decide_eq_true (by omega : (m.imps.length : Int) ≤ 8), cond_true, decide_eq_true h4, findImport n m.imps _ (by omega) hn, Option.bind_some, any_not, Bool.true_and]
              cases m.imps.all (fitI m.recs.length) with
              | false => rfl
              | true =>
                rw [cond_true, Bool.true_and]
                by_cases h5 : m.ints.length ≤ 16
                · rw [decide_eq_true (by omega : (m.ints.length : Int) ≤ 16), cond_true, decide_eq_true h5, Bool.true_and]
                  by_cases h6 : m.texts.length ≤ 16
                  · rw [decide_eq_true (by omega : (m.texts.length : Int) ≤ 16), cond_true, decide_eq_true h6, Bool.true_and, findString n m.texts (by omega) hn, Option.bind_some, any_gt]
                  · rw [decide_eq_false (by omega : ¬ (m.texts.length : Int) ≤ 16), cond_false, decide_eq_false h6]; rfl
                · rw [decide_eq_false (by omega : ¬ (m.ints.length : Int) ≤ 16), cond_false, decide_eq_false h5]; rfl
            · rw [decide_eq_false (by omega : ¬ (m.imps.length : Int) ≤ 8), cond_false, decide_eq_false h4]; rfl
        · rw [decide_eq_false (by omega : ¬ (m.funcs.length : Int) ≤ 8), cond_false, decide_eq_false h3]; rfl
      · rw [decide_eq_false (by omega : ¬ (m.funcs.length : Int) ≥ 1), cond_false, decide_eq_false h2]; rfl
  · rw [decide_eq_false (by omega : ¬ (m.recs.length : Int) ≤ 8), cond_false, decide_eq_false h1]; rfl
end Sx
