/- Types that are right: the program's answer is the document's. -/
import Derived.Test.YtliamnpngkojdaaDoorLaw4
set_option linter.unusedVariables false
set_option linter.unusedSimpArgs false
namespace Sx
open Go Go.Ab
theorem zbA {X S : Type} {B : S → Option (S ⊕ X)} {mk : Nat → S} {p : Nat → Bool} {found : Nat → X} {e : X} (k : Nat)
  (hs : ∀ i, i < k → B (mk i) = (if p i = true then some (.inl (mk (i + 1))) else some (.inr (found i)))) (he : B (mk k) = some (.inr e)) (n : Nat) (hn : k < n) :
  ((List.range k).all p = true ∧ loopS B n (mk 0) = some e) ∨ ((List.range k).all p = false ∧ ∃ i, i < k ∧ loopS B n (mk 0) = some (found i)) := by
 have h := zr (xs := List.range k) (B := B) (mk := mk) (p := fun i => !p i) (found := fun i _ => found i) (e := e) (fun i x hx => ?_) (by rw [List.length_range]; exact he) k 0 n (by rw [List.length_range]; omega) hn
 ·rw [List.drop_zero] at h
  have ha : (List.range k).all p = !(List.range k).any (fun i => !p i) := by rw [List.all_eq_not_any_not]
  rcases h with ⟨h1, j, x, hx, _, h2⟩ | ⟨h1, h2⟩
  ·have := zai hx
   rw [List.length_range] at this
   exact .inr ⟨by rw [ha, h1]; rfl, j, this, h2⟩
  ·exact .inl ⟨by rw [ha, h1]; rfl, h2⟩
 ·have hi := zai hx
  rw [List.length_range] at hi
  rw [List.getElem?_range hi] at hx
  obtain rfl := Option.some.inj hx
  rw [hs i hi]
  cases p i <;> rfl
abbrev ShD := Bool × List TyD
noncomputable def ruleR (m : ModD) (f : FnD) (i : InD) (s : List TyD) : List TyD × List TyD × Bool := (qbo 10000 m.recs m.funcs m.imps m.ints m.texts f.1 f.2.1 f.2.2.1 f.2.2.2.1 f.2.2.2.2 i.1 i.2.1 i.2.2 s).getD ([], [], false)
noncomputable def stepF (m : ModD) (f : FnD) (i : InD) (pc : Int) (s : List TyD) : FR := stepV f i pc s (ruleR m f i s)
theorem zlP (m : ModD) (fk pk : Nat) (f : FnD) (i : InD) (s : List TyD) (hc : checkV m = 0) (hf : m.funcs[fk]? = some f) (hi : f.2.2.2.2[pk]? = some i) (hs : s.length ≤ 200) :
  qcl 10000 m.recs m.funcs m.imps m.ints m.texts (fk : Int) (pk : Int) s = some (stepF m f i (pk : Int) s) ∧ qbp 10000 m.recs m.funcs m.imps m.ints m.texts (fk : Int) (pk : Int) s = some (stepF m f i (pk : Int) s) ∧
   qbo 10000 m.recs m.funcs m.imps m.ints m.texts f.1 f.2.1 f.2.2.1 f.2.2.2.1 f.2.2.2.2 i.1 i.2.1 i.2.2 s = some (ruleR m f i s) ∧
   (stepF m f i (pk : Int) s).1.length ≤ 400 ∧ (stepF m f i (pk : Int) s).2.1.length ≤ 2 ∧ ∀ t ∈ (stepF m f i (pk : Int) s).2.1, 0 ≤ t ∧ t < (f.2.2.2.2.length : Int) := by
 obtain ⟨r, hr, l1, l2, e1, e2⟩ := zjs 10000 m fk pk f i s hc hf hi hs (by omega)
 have hR : ruleR m f i s = r := by unfold ruleR; rw [hr]; rfl
 have hF : stepF m f i (pk : Int) s = stepV f i (pk : Int) s r := by unfold stepF; rw [hR]
 have hlen := zfz (f := f) (i := i) (pc := (pk : Int)) (s := s) (r := r) hs l2
 rw [hF, hR]
 refine ⟨e1, e2, hr, hlen.1, hlen.2, fun t ht => ?_⟩
 have hfm := List.mem_of_getElem? hf
 have him := List.mem_of_getElem? hi
 have hN := zdc hc hfm him
 have hb := zes ((zaq (zaK hc).1).2.2.2.1 f hfm |>.1 i him)
 have hA : i.1 = 23 ∨ i.1 = 24 → i.2.1 < (f.2.2.2.2.length : Int) := by
  obtain ⟨op, x, y⟩ := i
  rintro (h | h)
  ·simp only at h; subst h
   exact of_decide_eq_true (show decide (x < lenI f.2.2.2.2) = true from hN)
  ·simp only at h; subst h
   exact of_decide_eq_true (show decide (x < lenI f.2.2.2.2) = true from hN)
 have hpk := zai hi
 unfold stepV at ht
 split at ht
 ·cases ht
 ·split at ht
  ·cases ht
  ·rename_i h2
   unfold nextV at ht
   simp only at ht
   split at ht
   ·cases ht
   ·rename_i n26
    split at ht
    ·rename_i h23
     obtain rfl := List.mem_singleton.1 ht
     exact ⟨hb.1, hA (.inl h23)⟩
    ·rename_i n23
     have hlt : (pk : Int) + 1 < (f.2.2.2.2.length : Int) := by
      by_cases h : (pk : Int) + 1 < (f.2.2.2.2.length : Int)
      ·exact h
      ·exact absurd ⟨n26, n23, Int.not_lt.1 h⟩ h2
     split at ht
     ·rename_i h24
      rcases List.mem_cons.1 ht with rfl | ht
      ·omega
      ·obtain rfl := List.mem_singleton.1 ht
       exact ⟨hb.1, hA (.inr h24)⟩
     ·obtain rfl := List.mem_singleton.1 ht
      omega
def nextOk (sh : List ShD) (after : List TyD) (t : Int) : Bool := match getI sh t with | some x => x.1 && belowV after x.2 | none => false
noncomputable def okOne (m : ModD) (f : FnD) (sh : List ShD) (i : InD) (pc : Int) (x : ShD) : Bool :=
 !decide (x.2.length > 8) && (!x.1 || ((stepF m f i pc x.2).2.2 == 0 && (stepF m f i pc x.2).2.1.all (nextOk sh (stepF m f i pc x.2).1)))
noncomputable def okAt (m : ModD) (f : FnD) (sh : List ShD) (pc : Nat) : Bool := match sh[pc]?, f.2.2.2.2[pc]? with | some x, some i => okOne m f sh i (pc : Int) x | _, _ => false
noncomputable def okFn (m : ModD) (f : FnD) (sh : List ShD) : Bool := decide (sh.length = f.2.2.2.2.length) && (match sh with | x :: _ => x.1 && !decide (x.2.length > 0) | [] => false) && (List.range sh.length).all (okAt m f sh)
noncomputable def okK (m : ModD) (maps : List (List ShD)) (k : Nat) : Bool := match maps[k]?, m.funcs[k]? with | some sh, some f => okFn m f sh | _, _ => false
theorem znZ {m : ModD} {maps : List (List ShD)} {k : Nat} {sh : List ShD} {f : FnD} (h1 : maps[k]? = some sh) (h2 : m.funcs[k]? = some f) : okK m maps k = okFn m f sh := by unfold okK; rw [h1, h2]
noncomputable def rightV (m : ModD) (maps : List (List ShD)) : Bool := mainV m && (decide (maps.length = m.funcs.length) && (List.range maps.length).all (okK m maps))
theorem zmT {α : Type} {l : List α} {t : Int} (h0 : 0 ≤ t) (h : t < (l.length : Int)) : ∃ x, getI l t = some x := by
 obtain ⟨a, ha, _⟩ := zbQ h0 h
 exact ⟨a, ha⟩
theorem qbr_eq (n : Nat) (sh : List ShD) (after : List TyD) (t : Int) (ha : after.length ≤ 5000) (ht : 0 ≤ t ∧ t < (sh.length : Int)) (hn : 6000 ≤ n) : qbr n t sh after = some (!nextOk sh after t, (sh, after)) := by
 unfold qbr nextOk
 obtain ⟨x, hx⟩ := zmT ht.1 ht.2
 rw [hx, Option.bind_some, Option.bind_some, zaB n after x.2 ha hn]
 cases hb : x.1 <;> simp [hb]
theorem zia (n : Nat) (sh : List ShD) (after : List TyD) (to : List Int) (ha : after.length ≤ 5000) (ht : ∀ t ∈ to, 0 ≤ t ∧ t < (sh.length : Int)) (hl : to.length ≤ 10) (hn : 6000 ≤ n) : qp n to sh after = some (!to.all (nextOk sh after), (sh, after)) := by
 unfold qp qag
 have h := zr (xs := to) (B := fun s => qag_B0 n s.1.1 s.1.2.1 s.1.2.2 s.2.1 s.2.2) (mk := fun (i : Nat) => ((to, (lenI to, (i : Int))), (sh, after))) (p := fun t => !nextOk sh after t)
  (found := fun i t => Sum.inl ((i : Int), (sh, after))) (e := Sum.inr (sh, after)) (fun i t hx => ?_) ?_ to.length 0 n (by omega) (by omega)
 ·rw [List.drop_zero] at h
  have hall : to.all (nextOk sh after) = !to.any (fun t => !nextOk sh after t) := by rw [List.all_eq_not_any_not]
  rcases h with ⟨h1, j, x, hx, _, h2⟩ | ⟨h1, h2⟩
  ·rw [show qag_W0 n ((to, (lenI to, 0)), (sh, after)) = _ from h2, hall, h1]
   show some (decide ((j : Int) ≥ 0), (sh, after)) = _
   rw [decide_eq_true (by omega)]; rfl
  ·rw [show qag_W0 n ((to, (lenI to, 0)), (sh, after)) = _ from h2, hall, h1]; rfl
 ·have hi := zai hx
  show qag_B0 n to (lenI to) (i : Int) sh after = _
  unfold qag_B0
  rw [zb, decide_eq_true (by omega), cond_true, ze, hx, Option.bind_some, qbr_eq n sh after t ha (ht t (List.mem_of_getElem? hx)) hn, Option.bind_some, zg (by omega)]
  cases nextOk sh after t <;> rfl
 ·show qag_B0 n to (lenI to) (to.length : Int) sh after = _
  unfold qag_B0
  rw [zb, decide_eq_false (by omega), cond_false]
theorem qbz_eq (m : ModD) (fk pk : Nat) (f : FnD) (i : InD) (sh : List ShD) (x : ShD) (hc : checkV m = 0) (hf : m.funcs[fk]? = some f) (hi : f.2.2.2.2[pk]? = some i) (hx : sh[pk]? = some x) (hl : sh.length = f.2.2.2.2.length) :
  qbz 10000 m.recs m.funcs m.imps m.ints m.texts (fk : Int) (pk : Int) sh = some (okAt m f sh pk) := by
 unfold qbz okAt
 rw [ze, hx, hi, Option.bind_some]
 simp only [okOne]
 rw [zb]
 by_cases h8 : x.2.length > 8
 ·rw [decide_eq_true (by omega : (x.2.length : Int) > 8), decide_eq_true h8]; rfl
 ·rw [decide_eq_false (by omega : ¬ (x.2.length : Int) > 8), decide_eq_false h8]
  obtain ⟨e1, _, _, l1, l2, ht⟩ := zlP m fk pk f i x.2 hc hf hi (by omega)
  rw [e1]
  generalize stepF m f i (pk : Int) x.2 = R at l1 l2 ht ⊢
  cases hb : x.1 with
  | false => rfl
  | true =>
   simp only [Bool.not_true, cond_false, Option.bind_some, Bool.not_false, Bool.true_and, Bool.false_or]
   rw [zia 10000 sh R.1 R.2.1 (by omega) (by rw [hl]; exact ht) (by omega) (by omega)]
   cases R.2.2 == 0 <;> simp
theorem zmv (m : ModD) (fk : Nat) (f : FnD) (sh : List ShD) (maps : List (List ShD)) (t20 : Int) (hc : checkV m = 0) (hf : m.funcs[fk]? = some f) (hl : sh.length = f.2.2.2.2.length) (hs : sh.length ≤ 200) :
  judgeRight_W2 10000 (((fk : Int), (sh, (maps, (t20, ((fk : Int), (lenI sh, 0)))))), mtup m) = some (if (List.range sh.length).all (okAt m f sh) = true then Sum.inr ((maps, (t20, (fk : Int))), mtup m) else Sum.inl (false, mtup m)) := by
 have h := zbA (B := fun s => judgeRight_B2 10000 s.1.1 s.1.2.1 s.1.2.2.1 s.1.2.2.2.1 s.1.2.2.2.2.1 s.1.2.2.2.2.2.1 s.1.2.2.2.2.2.2 s.2.1 s.2.2.1 s.2.2.2.1 s.2.2.2.2.1 s.2.2.2.2.2) (mk := fun (j : Nat) => (((fk : Int), (sh, (maps, (t20, ((fk : Int), (lenI sh, (j : Int))))))), mtup m))
  (p := okAt m f sh) (found := fun j => Sum.inl (false, mtup m)) (e := Sum.inr ((maps, (t20, (fk : Int))), mtup m)) sh.length (fun j hj => ?_) ?_ 10000 (by omega)
 ·rcases h with ⟨h1, h2⟩ | ⟨h1, j, _, h2⟩
  ·rw [h1, if_pos rfl]; exact h2
  ·rw [h1, if_neg (by simp)]; exact h2
 ·show judgeRight_B2 10000 (fk : Int) sh maps t20 (fk : Int) (lenI sh) (j : Int) m.recs m.funcs m.imps m.ints m.texts = _
  unfold judgeRight_B2
  rw [zb, decide_eq_true (by omega), cond_true, qbz_eq m fk j f (f.2.2.2.2[j]'(by omega)) sh sh[j] hc hf (List.getElem?_eq_getElem _) (List.getElem?_eq_getElem _) hl, Option.bind_some, zg (by omega)]
  cases okAt m f sh j <;> rfl
 ·show judgeRight_B2 10000 (fk : Int) sh maps t20 (fk : Int) (lenI sh) (sh.length : Int) m.recs m.funcs m.imps m.ints m.texts = _
  unfold judgeRight_B2
  rw [zb, decide_eq_false (by omega), cond_false]
theorem zif {m : ModD} (h : mainV m = true) : checkV m = 0 := by
 unfold mainV at h
 rw [Bool.and_eq_true] at h
 exact beq_iff_eq.1 h.1
theorem ziK (m : ModD) (ho : OkM m) (maps : List (List ShD)) : judgeRight 10000 m.recs m.funcs m.imps m.ints m.texts maps = some (rightV m maps) := by
 unfold judgeRight rightV
 rw [zoP 10000 m ho (by omega), Option.bind_some]
 cases hM : mainV m with
 | false => rfl
 | true =>
  have hc := zif hM
  obtain ⟨k1, _, _, k4, _⟩ := zaq (zaK hc).1
  simp only [Bool.not_true, cond_false, Bool.true_and]
  rw [lenNe]
  by_cases hl : maps.length = m.funcs.length
  ·rw [decide_eq_true hl]
   simp only [Bool.not_true, cond_false, Bool.true_and]
   have h := zbA (B := fun s => judgeRight_B0 10000 s.1.1 s.1.2.1 s.1.2.2 s.2.1 s.2.2.1 s.2.2.2.1 s.2.2.2.2.1 s.2.2.2.2.2) (mk := fun (j : Nat) => ((maps, (lenI maps, (j : Int))), mtup m))
    (p := okK m maps) (found := fun j => Sum.inl (false, mtup m)) (e := Sum.inr (mtup m)) maps.length (fun j hj => ?_) ?_ 10000 (by omega)
   ·rcases h with ⟨h1, h2⟩ | ⟨h1, j, _, h2⟩
    ·rw [h1, show judgeRight_W0 10000 ((maps, (lenI maps, 0)), _) = _ from h2]; rfl
    ·rw [h1, show judgeRight_W0 10000 ((maps, (lenI maps, 0)), _) = _ from h2]; rfl
   ·show judgeRight_B0 10000 maps (lenI maps) (j : Int) m.recs m.funcs m.imps m.ints m.texts = _
    have hg : maps[j]? = some maps[j] := List.getElem?_eq_getElem hj
    have hgf : m.funcs[j]? = some (m.funcs[j]'(by omega)) := List.getElem?_eq_getElem _
    generalize maps[j] = sh at hg
    generalize m.funcs[j]'(by omega) = f at hgf
    unfold judgeRight_B0
    rw [znZ hg hgf, zb, decide_eq_true (by omega), cond_true, ze, hg, Option.bind_some, ze, hgf, Option.bind_some, lenNe]
    by_cases hlen : sh.length = f.2.2.2.2.length
    ·have hk := k4 f (List.mem_of_getElem? hgf)
     rw [decide_eq_true hlen, Bool.not_true, cond_false]
     match sh, hlen, hg with
     | [], hlen, _ => exfalso; simp at hlen; omega
     | x :: sh, hlen, hg =>
      rw [show getI (x :: sh) 0 = some x from rfl, Option.bind_some, Option.bind_some, zb]
      have hW := zmv m j f (x :: sh) maps (maps.length : Int) hc hgf hlen (by omega)
      rw [show judgeRight_W2 10000 (((j : Int), (x :: sh, (maps, ((maps.length : Int), ((j : Int), (lenI (x :: sh), 0)))))), (m.recs, (m.funcs, (m.imps, (m.ints, m.texts))))) = _ from hW]
      have hok : okFn m f (x :: sh) = ((x.1 && !decide (x.2.length > 0)) && (List.range (x :: sh).length).all (okAt m f (x :: sh))) := by
       unfold okFn
       rw [decide_eq_true hlen, Bool.true_and]
      show _ = (if okFn m f (x :: sh) = true then some (Sum.inl ((maps, ((maps.length : Int), ((j + 1 : Nat) : Int))), mtup m)) else some (Sum.inr (Sum.inl (false, mtup m))))
      rw [hok]
      cases hb : x.1 with
      | false => rfl
      | true =>
       by_cases h0 : x.2.length > 0
       ·rw [decide_eq_true (by omega : (x.2.length : Int) > 0), decide_eq_true h0]; rfl
       ·rw [decide_eq_false (by omega : ¬ (x.2.length : Int) > 0), decide_eq_false h0]
        cases (List.range (x :: sh).length).all (okAt m f (x :: sh)) with
        | false => rfl
        | true =>
         show some (Sum.inl ((maps, ((maps.length : Int), addI .i64 (j : Int) 1)), mtup m)) = _
         rw [zg (by omega)]; rfl
    ·have hok : okFn m f sh = false := by unfold okFn; rw [decide_eq_false hlen]; rfl
     show _ = (if okFn m f sh = true then some (Sum.inl ((maps, ((maps.length : Int), ((j + 1 : Nat) : Int))), mtup m)) else some (Sum.inr (Sum.inl (false, mtup m))))
     rw [hok, decide_eq_false hlen]; rfl
   ·show judgeRight_B0 10000 maps (lenI maps) (maps.length : Int) m.recs m.funcs m.imps m.ints m.texts = _
    unfold judgeRight_B0
    rw [zb, decide_eq_false (by omega), cond_false]
  ·rw [decide_eq_false hl]; rfl
end Sx
