/- Plain laws (texts FwR2, FwRowR). -/
import Derived.Test.YtliamnpngkojdaaDoorFwR
import Derived.Test.YtliamnpngkojdaaDoorLaw4
section
/- Types that are right: the document's answer; the statement. -/
set_option linter.unusedVariables false
set_option linter.unusedSimpArgs false
namespace Sx
open Go Go.Ab
theorem zoi (m : ModD) (maps : List (List ShD)) (fk : Nat) (sh : List ShD) (j : Nat) (R : FR) (hl : R.1.length ≤ 5000) (ht : ∀ t ∈ R.2.1, 0 ≤ t ∧ t < (sh.length : Int)) (h10 : R.2.1.length ≤ 10) :
  qay_W4 10000 ((maps, ((fk : Int), (sh, ((j : Int), (R.1, (R.2.1, 0)))))), mtup m) = some (if R.2.1.all (nextOk sh R.1) = true then Sum.inr ((maps, ((fk : Int), (sh, (j : Int)))), mtup m) else Sum.inl (false, mtup m)) := by
 have h := zr (xs := R.2.1) (B := fun s => qay_B4 10000 s.1.1 s.1.2.1 s.1.2.2.1 s.1.2.2.2.1 s.1.2.2.2.2.1 s.1.2.2.2.2.2.1 s.1.2.2.2.2.2.2 s.2.1 s.2.2.1 s.2.2.2.1 s.2.2.2.2.1 s.2.2.2.2.2) (mk := fun (k : Nat) => ((maps, ((fk : Int), (sh, ((j : Int), (R.1, (R.2.1, (k : Int))))))), mtup m))
  (p := fun t => !nextOk sh R.1 t) (found := fun k t => Sum.inl (false, mtup m)) (e := Sum.inr ((maps, ((fk : Int), (sh, (j : Int)))), mtup m)) (fun k t hx => ?_) ?_ R.2.1.length 0 10000 (by omega) (by omega)
 ·rw [List.drop_zero] at h
  have hall : R.2.1.all (nextOk sh R.1) = !R.2.1.any (fun t => !nextOk sh R.1 t) := by rw [List.all_eq_not_any_not]
  rcases h with ⟨h1, _, _, _, _, h2⟩ | ⟨h1, h2⟩
  ·rw [hall, h1]; exact h2
  ·rw [hall, h1]; exact h2
 ·have hi := zai hx
  obtain ⟨x, hg⟩ := zmT (l := sh) (ht t (List.mem_of_getElem? hx)).1 (ht t (List.mem_of_getElem? hx)).2
  show qay_B4 10000 maps (fk : Int) sh (j : Int) R.1 R.2.1 (k : Int) m.recs m.funcs m.imps m.ints m.texts = _
  have hno : nextOk sh R.1 t = (x.1 && belowV R.1 x.2) := by unfold nextOk; rw [hg]
  rw [hno]
  unfold qay_B4
  rw [zb, decide_eq_true (by omega), cond_true, ze, hx, Option.bind_some, hg, Option.bind_some, Option.bind_some, hg, Option.bind_some, zbU 10000 R.1 x.2 hl (by omega), Option.bind_some, zg (by omega)]
  cases x.1 <;> cases belowV R.1 x.2 <;> rfl
 ·show qay_B4 10000 maps (fk : Int) sh (j : Int) R.1 R.2.1 (R.2.1.length : Int) m.recs m.funcs m.imps m.ints m.texts = _
  unfold qay_B4
  rw [zb, decide_eq_false (by omega), cond_false]
theorem zor (m : ModD) (fk : Nat) (f : FnD) (sh : List ShD) (maps : List (List ShD)) (hc : checkV m = 0) (hf : m.funcs[fk]? = some f) (hl : sh.length = f.2.2.2.2.length) (hs : sh.length ≤ 200) :
  qay_W2 10000 ((maps, ((fk : Int), (sh, 0))), mtup m) = some (if (List.range sh.length).all (okAt m f sh) = true then Sum.inr ((maps, (fk : Int)), mtup m) else Sum.inl (false, mtup m)) := by
 have h := zbA (B := fun s => qay_B2 10000 s.1.1 s.1.2.1 s.1.2.2.1 s.1.2.2.2 s.2.1 s.2.2.1 s.2.2.2.1 s.2.2.2.2.1 s.2.2.2.2.2) (mk := fun (j : Nat) => ((maps, ((fk : Int), (sh, (j : Int)))), mtup m))
  (p := okAt m f sh) (found := fun j => Sum.inl (false, mtup m)) (e := Sum.inr ((maps, (fk : Int)), mtup m)) sh.length (fun j hj => ?_) ?_ 10000 (by omega)
 ·rcases h with ⟨h1, h2⟩ | ⟨h1, j, _, h2⟩
  ·rw [h1, if_pos rfl]; exact h2
  ·rw [h1, if_neg (by simp)]; exact h2
 ·show qay_B2 10000 maps (fk : Int) sh (j : Int) m.recs m.funcs m.imps m.ints m.texts = _
  have hx : sh[j]? = some sh[j] := List.getElem?_eq_getElem hj
  have hi : f.2.2.2.2[j]? = some (f.2.2.2.2[j]'(by omega)) := List.getElem?_eq_getElem _
  generalize sh[j] = x at hx
  generalize f.2.2.2.2[j]'(by omega) = i at hi
  have hok : okAt m f sh j = okOne m f sh i (j : Int) x := by unfold okAt; rw [hx, hi]
  rw [hok]
  unfold qay_B2 okOne
  rw [zb, decide_eq_true (by omega), cond_true, ze, hx, Option.bind_some, zb]
  by_cases h8 : x.2.length > 8
  ·rw [decide_eq_true (by omega : (x.2.length : Int) > 8), decide_eq_true h8]; rfl
  ·rw [decide_eq_false (by omega : ¬ (x.2.length : Int) > 8), decide_eq_false h8]
   obtain ⟨_, e2, _, l1, l2, ht⟩ := zlP m fk j f i x.2 hc hf hi (by omega)
   simp only [cond_false, Option.bind_some]
   rw [e2]
   generalize stepF m f i (j : Int) x.2 = R at l1 l2 ht ⊢
   cases hb : x.1 with
   | false =>
    rw [zg (by omega)]
    rfl
   | true =>
    simp only [Bool.not_true, cond_false, Option.bind_some, Bool.not_false, Bool.true_and, Bool.false_or]
    have hW := zoi m maps fk sh j R (by omega) (by rw [hl]; exact ht) (by omega)
    rw [show qay_W4 10000 ((maps, ((fk : Int), (sh, ((j : Int), (R.1, (R.2.1, 0)))))), (m.recs, (m.funcs, (m.imps, (m.ints, m.texts))))) = _ from hW]
    by_cases e0 : R.2.2 = 0
    ·rw [show (R.2.2 != 0) = false from by rw [e0]; rfl, show (R.2.2 == 0) = true from by rw [e0]; rfl]
     simp only [cond_false, Bool.true_and]
     cases R.2.1.all (nextOk sh R.1) with
     | false => rfl
     | true =>
      show some (Sum.inl ((maps, ((fk : Int), (sh, addI .i64 (j : Int) 1))), mtup m)) = _
      rw [zg (by omega)]; rfl
    ·rw [show (R.2.2 != 0) = true from bne_iff_ne.2 e0, show (R.2.2 == 0) = false from beq_eq_false_iff_ne.2 e0]; rfl
 ·show qay_B2 10000 maps (fk : Int) sh (sh.length : Int) m.recs m.funcs m.imps m.ints m.texts = _
  unfold qay_B2
  rw [zb, decide_eq_false (by omega), cond_false]
theorem zkC (m : ModD) (ho : OkM m) (hL : LightM m) (maps : List (List ShD)) : qay 10000 m.recs m.funcs m.imps m.ints m.texts maps = some (rightV m maps) := by
 unfold qay rightV
 rw [zml 10000 m ho hL (by omega), Option.bind_some]
 cases hM : mainV m with
 | false => rfl
 | true =>
  have hc := zif hM
  obtain ⟨k1, _, _, k4, _⟩ := zaq (zaK hc).1
  simp only [Bool.not_true, cond_false, Bool.true_and]
  rw [lenNe]
  by_cases hl : maps.length = m.funcs.length
  ·rw [decide_eq_true hl]
   simp only [Bool.not_true, cond_false, Bool.true_and]
   have h := zbA (B := fun s => qay_B0 10000 s.1.1 s.1.2 s.2.1 s.2.2.1 s.2.2.2.1 s.2.2.2.2.1 s.2.2.2.2.2) (mk := fun (j : Nat) => ((maps, (j : Int)), mtup m))
    (p := okK m maps) (found := fun j => Sum.inl (false, mtup m)) (e := Sum.inr (mtup m)) maps.length (fun j hj => ?_) ?_ 10000 (by omega)
   ·rcases h with ⟨h1, h2⟩ | ⟨h1, j, _, h2⟩
    ·rw [h1, show qay_W0 10000 ((maps, 0), _) = _ from h2]; rfl
    ·rw [h1, show qay_W0 10000 ((maps, 0), _) = _ from h2]; rfl
   ·show qay_B0 10000 maps (j : Int) m.recs m.funcs m.imps m.ints m.texts = _
    have hg : maps[j]? = some maps[j] := List.getElem?_eq_getElem hj
    have hgf : m.funcs[j]? = some (m.funcs[j]'(by omega)) := List.getElem?_eq_getElem _
    generalize maps[j] = sh at hg
    generalize m.funcs[j]'(by omega) = f at hgf
    unfold qay_B0
    rw [znZ hg hgf, zb, decide_eq_true (by omega), cond_true, ze, hg, Option.bind_some, ze, hgf, Option.bind_some, lenNe]
    show _ = (if okFn m f sh = true then some (Sum.inl ((maps, ((j + 1 : Nat) : Int)), mtup m)) else some (Sum.inr (Sum.inl (false, mtup m))))
    by_cases hlen : sh.length = f.2.2.2.2.length
    ·have hk := k4 f (List.mem_of_getElem? hgf)
     rw [decide_eq_true hlen, Bool.not_true, cond_false]
     match sh, hlen, hg with
     | [], hlen, _ => exfalso; simp at hlen; omega
     | x :: sh, hlen, hg =>
      rw [show getI (x :: sh) 0 = some x from rfl, Option.bind_some, Option.bind_some, zb]
      have hW := zor m j f (x :: sh) maps hc hgf hlen (by omega)
      rw [show qay_W2 10000 ((maps, ((j : Int), (x :: sh, 0))), (m.recs, (m.funcs, (m.imps, (m.ints, m.texts))))) = _ from hW]
      have hok : okFn m f (x :: sh) = ((x.1 && !decide (x.2.length > 0)) && (List.range (x :: sh).length).all (okAt m f (x :: sh))) := by
       unfold okFn
       rw [decide_eq_true hlen, Bool.true_and]
      rw [hok]
      cases hb : x.1 with
      | false => rfl
      | true =>
       by_cases h0 : x.2.length > 0
       ·rw [decide_eq_true (by omega : (x.2.length : Int) > 0), decide_eq_true h0]; rfl
       ·rw [decide_eq_false (by omega : ¬ (x.2.length : Int) > 0), decide_eq_false h0]
        cases (List.range (x :: sh).length).all (okAt m f (x :: sh)) with
        | false => rfl
        | true =>
         show some (Sum.inl ((maps, addI .i64 (j : Int) 1), mtup m)) = _
         rw [zg (by omega)]; rfl
    ·have hok : okFn m f sh = false := by unfold okFn; rw [decide_eq_false hlen]; rfl
     rw [hok, decide_eq_false hlen]; rfl
   ·show qay_B0 10000 maps (maps.length : Int) m.recs m.funcs m.imps m.ints m.texts = _
    unfold qay_B0
    rw [zb, decide_eq_false (by omega), cond_false]
  ·rw [decide_eq_false hl]; rfl
theorem zlH (m : ModD) (ho : OkM m) (hl : LenM m) (maps : List (List ShD)) : law10JudgeRight 10000 m.recs m.funcs m.imps m.ints m.texts maps = some true := by
 unfold law10JudgeRight
 obtain ⟨x, e, hL⟩ := zbT 10000 m hl (by omega)
 rw [e, Option.bind_some, answers10, zb]
 cases x with
 | false => rfl
 | true =>
  simp only [Bool.not_true, cond_false]
  by_cases h10 : (maps.length : Int) > 10
  ·rw [decide_eq_true h10]; rfl
  ·rw [decide_eq_false h10, cond_false]
   have h := zbA (B := fun s => law10JudgeRight_B0 10000 s.1.1 s.1.2 s.2.1 s.2.2.1 s.2.2.2.1 s.2.2.2.2.1 s.2.2.2.2.2) (mk := fun (j : Nat) => ((maps, (j : Int)), mtup m))
    (p := fun k => match maps[k]? with | some sh => !decide (sh.length > 200) | none => false) (found := fun j => Sum.inl (true, mtup m)) (e := Sum.inr (maps, mtup m)) maps.length (fun j hj => ?_) ?_ 10000 (by omega)
   ·rcases h with ⟨_, h2⟩ | ⟨_, j, _, h2⟩
    ·rw [show law10JudgeRight_W0 10000 ((maps, 0), _) = _ from h2, Option.bind_some]
     show (((some true).bind fun r => bif r then (judgeRight 10000 m.recs m.funcs m.imps m.ints m.texts maps).bind fun a => (qay 10000 m.recs m.funcs m.imps m.ints m.texts maps).bind fun b => some (a == b) else some false) : Option Bool) = _
     rw [ziK m ho maps, zkC m ho (hL rfl) maps]
     simp
    ·rw [show law10JudgeRight_W0 10000 ((maps, 0), _) = _ from h2]; rfl
   ·show law10JudgeRight_B0 10000 maps (j : Int) m.recs m.funcs m.imps m.ints m.texts = _
    have hg : maps[j]? = some maps[j] := List.getElem?_eq_getElem hj
    generalize maps[j] = sh at hg
    unfold law10JudgeRight_B0
    rw [zb, decide_eq_true (by omega), cond_true, ze, hg, Option.bind_some, zb, answers10, zg (by omega)]
    by_cases h2 : sh.length > 200
    ·simp only [decide_eq_true (show (sh.length : Int) > 200 by omega), decide_eq_true h2]; rfl
    ·simp only [decide_eq_false (show ¬ (sh.length : Int) > 200 by omega), decide_eq_false h2]; rfl
   ·show law10JudgeRight_B0 10000 maps (maps.length : Int) m.recs m.funcs m.imps m.ints m.texts = _
    unfold law10JudgeRight_B0
    rw [zb, decide_eq_false (by omega), cond_false]
end Sx
end
section
/- The plain law at the row's own data. -/
set_option linter.unusedVariables false
namespace Sx
open Go Go.Ab
abbrev shT : Ty := .cons .bool (.sl true tyT)
def shMaps : Sh := .sl true false (.sl true shT)
theorem zkr (d : MTup × List (List ShD)) (hf : FitS (.cons shM (.cons shMaps .nil)) d) : ∃ n, law10JudgeRight n d.1.1 d.1.2.1 d.1.2.2.1 d.1.2.2.2.1 d.1.2.2.2.2 d.2 = some true := by
 obtain ⟨h1, _⟩ : FitS shM d.1 ∧ FitS (.cons shMaps .nil) d.2 := hf
 exact ⟨10000, zlH (modOf d.1) (zbP (d := d.1) h1).1 (zbP (d := d.1) h1).2 _⟩
end Sx
end
