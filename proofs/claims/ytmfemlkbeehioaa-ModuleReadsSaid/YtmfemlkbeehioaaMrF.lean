/- The bytes of a module, as the document has them. -/
import Derived.Test.YtmfemlkbeehioaaMrE
set_option linter.unusedVariables false
set_option linter.unusedSimpArgs false
namespace Sx
open Go Go.Ab
def typesR (recs most : Int) (l : List TyD) : List Int × Bool := if l.all (goodV recs) = true then (typesV l, decide ((l.length : Int) ≤ most)) else ([], false)
theorem typesR_ok (recs most : Int) (l : List TyD) : (typesR recs most l).2 = goodsV recs most l := by
  unfold typesR goodsV
  cases l.all (goodV recs) <;> simp
theorem typesR_bytes {recs most : Int} {l : List TyD} (h : goodsV recs most l = true) : (typesR recs most l).1 = typesV l := by
  simp only [goodsV, Bool.and_eq_true] at h
  unfold typesR
  rw [if_pos h.2]
theorem typesR_len (recs most : Int) (l : List TyD) : (typesR recs most l).1.length ≤ 11 + 22 * l.length := by
  unfold typesR
  split
  · exact typesV_len l
  · simp
theorem refTypes_eq (n : Nat) (l : List TyD) (recs most : Int) (ho : okTs l) (hl : l.length ≤ 5000) (hn : 6000 ≤ n) : qbs n l recs most = some (typesR recs most l) := by
  unfold qbs
  have hv := varN_len l.length
  rw [lenI_eq, cvtI_u64 (by omega) (by omega), refVar_eq n l.length (by omega) (by omega), Option.bind_some]
  have h := loop_rel (B := fun s => qbs_B0 n s.1.1 s.1.2.1 s.1.2.2.1 s.1.2.2.2 s.2) (xs := l) (mk := fun i a => ((l, (recs, (most, (i : Int)))), a))
    (I := fun i a => a = varN l.length ++ (l.take i).flatMap typV ∧ (l.take i).all (goodV recs) = true)
    (Q := fun y => (l.all (goodV recs) = true ∧ y = Sum.inr ((l, most), typesV l)) ∨ (l.all (goodV recs) = false ∧ ∃ m, y = Sum.inl (([], false), m)))
    (fun i a x hx hI => ?_) (fun a hI => ?_) l.length 0 n (varN l.length) (by omega) ⟨by simp, rfl⟩ (by omega)
  · obtain ⟨y, h1, h2⟩ := h
    rw [show qbs_W0 n ((l, (recs, (most, 0))), varN l.length) = some y from h1, Option.bind_some]
    unfold typesR
    rcases h2 with ⟨h3, rfl⟩ | ⟨h3, m, rfl⟩
    · rw [if_pos h3]; rfl
    · rw [if_neg (by rw [h3]; simp)]
  · have hi := lt_of_get hx
    obtain ⟨rfl, hg⟩ := hI
    have hfl := flatMap_le typV 22 (l.take i) fun t _ => typV_len t
    have hxl := typV_len x
    have htl : (l.take i).length = i := by rw [List.length_take]; omega
    have hb : qbs_B0 n l recs most (i : Int) (varN l.length ++ (l.take i).flatMap typV) = (if goodV recs x = true then some (Sum.inl ((l, (recs, (most, ((i + 1 : Nat) : Int)))), varN l.length ++ (l.take i).flatMap typV ++ typV x)) else some (Sum.inr (Sum.inl (([], false), varN l.length ++ (l.take i).flatMap typV)))) := by
      unfold qbs_B0
      rw [lenI_eq, decide_eq_true (by omega), cond_true, getI_nat, hx, Option.bind_some, refGood_eq, Option.bind_some, Option.bind_some, refType_eq n x (ho x (List.mem_of_getElem? hx)) (by omega), Option.bind_some, fits_le (by simp only [List.length_append]; omega), next_i64 (by omega)]
      cases goodV recs x <;> rfl
    by_cases hgx : goodV recs x = true
    · rw [if_pos hgx] at hb
      exact .inl ⟨_, hb, by rw [flatMap_take_succ hx, List.append_assoc], by rw [all_take_succ hx, hg, hgx]; rfl⟩
    · rw [if_neg hgx] at hb
      exact .inr ⟨_, hb, .inr ⟨all_false_of hx (by simpa using hgx), _, rfl⟩⟩
  · obtain ⟨rfl, hg⟩ := hI
    rw [List.take_length] at hg ⊢
    refine ⟨Sum.inr ((l, most), typesV l), ?_, .inl ⟨hg, rfl⟩⟩
    show qbs_B0 n l recs most (l.length : Int) _ = _
    unfold qbs_B0
    rw [lenI_eq, decide_eq_false (by omega), cond_false]; rfl
structure LightM (m : ModD) : Prop where
  n1 : m.recs.length ≤ 200
  n2 : m.funcs.length ≤ 200
  n3 : m.imps.length ≤ 200
  n4 : m.ints.length ≤ 200
  n5 : m.texts.length ≤ 200
  recs : ∀ l ∈ m.recs, l.length ≤ 3000
  funcs : ∀ f ∈ m.funcs, f.1.length ≤ 3000 ∧ f.2.2.2.1.length ≤ 3000 ∧ f.2.2.2.2.length ≤ 3000
  imps : ∀ i ∈ m.imps, i.1.length ≤ 3000
  texts : ∀ s ∈ m.texts, s.size ≤ 3000
abbrev mtup (m : ModD) : List (List TyD) × List FnD × List ImD × List Int × List ByteArray := (m.recs, (m.funcs, (m.imps, (m.ints, m.texts))))
theorem refRecs (n : Nat) (m : ModD) (ho : OkM m) (hL : LightM m) (h8 : m.recs.length ≤ 8) (hn : 6000 ≤ n) : ∃ b, qbh_W0 n (((m.recs.length : Int), (true, 0)), (mtup m, varN m.recs.length)) = some (((m.recs.length : Int), m.recs.all (goodsV m.recs.length 6)), (mtup m, b)) ∧
    (m.recs.all (goodsV m.recs.length 6) = true → b = listV typesV m.recs) := by
  have hv := varN_len m.recs.length
  have h := loop_rel (B := fun s => qbh_B0 n s.1.1 s.1.2.1 s.1.2.2 s.2.1.1 s.2.1.2.1 s.2.1.2.2.1 s.2.1.2.2.2.1 s.2.1.2.2.2.2 s.2.2) (xs := m.recs) (mk := fun i (a : Bool × List Int) => (((m.recs.length : Int), (a.1, (i : Int))), (mtup m, a.2)))
    (I := fun i a => a.1 = (m.recs.take i).all (goodsV m.recs.length 6) ∧ a.2.length ≤ 11 + 70000 * i ∧ (a.1 = true → a.2 = varN m.recs.length ++ (m.recs.take i).flatMap typesV))
    (Q := fun y => ∃ b, y = (((m.recs.length : Int), m.recs.all (goodsV m.recs.length 6)), (mtup m, b)) ∧ (m.recs.all (goodsV m.recs.length 6) = true → b = listV typesV m.recs))
    (fun i a x hx hI => ?_) (fun a hI => ?_) m.recs.length 0 n (true, varN m.recs.length) (by omega) ⟨rfl, by simp; omega, fun _ => by simp⟩ (by omega)
  · obtain ⟨y, h1, b, rfl, h2⟩ := h
    exact ⟨b, h1, h2⟩
  · have hi := lt_of_get hx
    have hm := List.mem_of_getElem? hx
    have hxl := hL.recs x hm
    have htl := typesR_len m.recs.length 6 x
    obtain ⟨h1, h2, h3⟩ := hI
    refine .inl ⟨(a.1 && (typesR m.recs.length 6 x).2, a.2 ++ (typesR m.recs.length 6 x).1), ?_, ?_, ?_, ?_⟩
    · show qbh_B0 n (m.recs.length : Int) a.1 (i : Int) m.recs m.funcs m.imps m.ints m.texts a.2 = _
      unfold qbh_B0
      rw [decide_eq_true (by omega), cond_true, getI_nat, hx, Option.bind_some, refTypes_eq n x _ _ (ho.recs x hm) (by omega) hn, Option.bind_some, fits_le (by rw [List.length_append]; omega), cond_true, next_i64 (by omega)]
      cases a.1 <;> rfl
    · rw [h1, all_take_succ hx, typesR_ok]
    · simp only [List.length_append]; omega
    · intro hb
      simp only [Bool.and_eq_true, typesR_ok] at hb
      simp only []
      rw [h3 hb.1, typesR_bytes hb.2, flatMap_take_succ hx, List.append_assoc]
  · obtain ⟨h1, h2, h3⟩ := hI
    rw [List.take_length] at h1 h3
    refine ⟨_, ?_, a.2, rfl, fun hb => h3 (h1.trans hb)⟩
    show qbh_B0 n (m.recs.length : Int) a.1 (m.recs.length : Int) m.recs m.funcs m.imps m.ints m.texts a.2 = _
    unfold qbh_B0
    rw [decide_eq_false (by omega), cond_false, h1]
theorem refCode (n : Nat) (m : ModD) (t4 : Int) (j : Int) (b1 b2 : List Int) (f : FnD) (hc : f.2.2.2.2.length ≤ 64) (hb2 : b2.length ≤ 4000000) (hn : 6000 ≤ n) :
    ∃ y, qbh_W4 n ((t4, (true, (j, 0))), (mtup m, (b1, (b2, f)))) = some y ∧
      ((f.2.2.2.2.any badI = false ∧ y = Sum.inr ((t4, (true, j)), (mtup m, (b1, (b2 ++ f.2.2.2.2.flatMap putV, f))))) ∨ (f.2.2.2.2.any badI = true ∧ ∃ z, y = Sum.inl (([], false), z))) := by
  refine loop_rel (B := fun s => qbh_B4 n s.1.1 s.1.2.1 s.1.2.2.1 s.1.2.2.2 s.2.1.1 s.2.1.2.1 s.2.1.2.2.1 s.2.1.2.2.2.1 s.2.1.2.2.2.2 s.2.2.1 s.2.2.2.1 s.2.2.2.2.1 s.2.2.2.2.2.1 s.2.2.2.2.2.2.1 s.2.2.2.2.2.2.2.1 s.2.2.2.2.2.2.2.2) (xs := f.2.2.2.2)
    (mk := fun i (a : List Int) => ((t4, (true, (j, (i : Int)))), (mtup m, (b1, (a, f))))) (I := fun i a => a = b2 ++ (f.2.2.2.2.take i).flatMap putV ∧ (f.2.2.2.2.take i).any badI = false) (fun i a x hx hI => ?_) (fun a hI => ?_) f.2.2.2.2.length 0 n b2 (by omega) ⟨by simp, rfl⟩ (by omega)
  · have hi := lt_of_get hx
    obtain ⟨rfl, hg⟩ := hI
    have hfl := flatMap_le putV 23 (f.2.2.2.2.take i) fun t _ => putV_len t
    have hxl := putV_len x
    have htl : (f.2.2.2.2.take i).length = i := by rw [List.length_take]; omega
    have hz : (((putV x).length : Int) == 0) = badI x := by
      rw [← putV_nil]
      cases (putV x).length <;> rfl
    have hb : qbh_B4 n t4 true j (i : Int) m.recs m.funcs m.imps m.ints m.texts b1 (b2 ++ (f.2.2.2.2.take i).flatMap putV) f.1 f.2.1 f.2.2.1 f.2.2.2.1 f.2.2.2.2 =
        (if badI x = true then some (Sum.inr (Sum.inl (([], false), (mtup m, (b1, (b2 ++ (f.2.2.2.2.take i).flatMap putV, f)))))) else some (Sum.inl ((t4, (true, (j, ((i + 1 : Nat) : Int)))), (mtup m, (b1, (b2 ++ (f.2.2.2.2.take i).flatMap putV ++ putV x, f)))))) := by
      unfold qbh_B4
      rw [lenI_eq, decide_eq_true (by omega), cond_true, getI_nat, hx, Option.bind_some, refInstr_eq n x (by omega), Option.bind_some, lenI_eq, hz, fits_le (by simp only [List.length_append]; omega), next_i64 (by omega)]
      cases badI x <;> rfl
    by_cases hgx : badI x = true
    · rw [if_pos hgx] at hb
      exact .inr ⟨_, hb, .inr ⟨List.any_eq_true.2 ⟨x, List.mem_of_getElem? hx, hgx⟩, _, rfl⟩⟩
    · rw [if_neg hgx] at hb
      refine .inl ⟨_, hb, by rw [flatMap_take_succ hx, List.append_assoc], ?_⟩
      rw [List.take_add_one, hx, List.any_append, hg]
      simpa using hgx
  · obtain ⟨rfl, hg⟩ := hI
    rw [List.take_length] at hg ⊢
    refine ⟨_, ?_, .inl ⟨hg, rfl⟩⟩
    show qbh_B4 n t4 true j (f.2.2.2.2.length : Int) m.recs m.funcs m.imps m.ints m.texts b1 (b2 ++ f.2.2.2.2.flatMap putV) f.1 f.2.1 f.2.2.1 f.2.2.2.1 f.2.2.2.2 = _
    unfold qbh_B4
    rw [lenI_eq, decide_eq_false (by omega), cond_false]
theorem refFuncs (n : Nat) (m : ModD) (ho : OkM m) (hL : LightM m) (h1 : 1 ≤ m.funcs.length) (h8 : m.funcs.length ≤ 8) (ok : Bool) (b1 : List Int) (hn : 6000 ≤ n) :
    ∃ y, qbh_W2 n (((m.recs.length : Int), (ok, 0)), (mtup m, (b1, varN m.funcs.length))) = some y ∧
      (((ok && m.funcs.all (fitF m.recs.length)) = true ∧ y = Sum.inr (((m.recs.length : Int), true), (mtup m, (b1, listV fncV m.funcs)))) ∨ ((ok && m.funcs.all (fitF m.recs.length)) = false ∧ ∃ z, y = Sum.inl (([], false), z))) := by
  have hv := varN_len m.funcs.length
  refine loop_rel (B := fun s => qbh_B2 n s.1.1 s.1.2.1 s.1.2.2 s.2.1.1 s.2.1.2.1 s.2.1.2.2.1 s.2.1.2.2.2.1 s.2.1.2.2.2.2 s.2.2.1 s.2.2.2) (xs := m.funcs) (mk := fun i (a : Bool × List Int) => (((m.recs.length : Int), (a.1, (i : Int))), (mtup m, (b1, a.2))))
    (I := fun i a => (i = 0 → a.1 = ok) ∧ (0 < i → a.1 = true ∧ ok = true) ∧ (m.funcs.take i).all (fitF m.recs.length) = true ∧ a.2 = varN m.funcs.length ++ (m.funcs.take i).flatMap fncV)
    (fun i a x hx hI => ?_) (fun a hI => ?_) m.funcs.length 0 n (ok, varN m.funcs.length) (by omega) ⟨fun _ => rfl, fun h => by omega, rfl, by simp⟩ (by omega)
  · have hi := lt_of_get hx
    have hm := List.mem_of_getElem? hx
    obtain ⟨l1, l2, l3⟩ := hL.funcs x hm
    obtain ⟨o1, o2, o3⟩ := ho.funcs x hm
    obtain ⟨ia, ib, hg, hbytes⟩ := hI
    have htl : (m.funcs.take i).length = i := by rw [List.length_take]; omega
    have hfl := flatMap_le fncV 1900 (m.funcs.take i) fun t ht => (fncV_len (List.all_eq_true.1 hg t ht)).2.2.2.2
    have hal : a.2.length ≤ 20000 := by rw [hbytes, List.length_append]; omega
    have hok : a.1 = ok := by
      rcases Nat.eq_zero_or_pos i with h | h
      · exact ia h
      · obtain ⟨e1, e2⟩ := ib h; rw [e1, e2]
    have exit : (a.1 && fitF m.recs.length x) = false → (ok && m.funcs.all (fitF m.recs.length)) = false := by
      intro h
      rw [hok] at h
      cases ok with
      | false => rfl
      | true =>
        have h : fitF m.recs.length x = false := h
        rw [Bool.true_and]; exact all_false_of hx h
    obtain ⟨ar, k, nn, lo, co⟩ := x
    simp only at l1 l2 l3 o1 o2 o3
    have t1 := typesR_len m.recs.length 4 ar
    have t2 := typesR_len m.recs.length (8 - (ar.length : Int)) lo
    have t3 := typV_len (k, nn)
    have t4 := varN_len co.length
    have hstep : ∀ s, qbh_B2 n (m.recs.length : Int) a.1 (i : Int) m.recs m.funcs m.imps m.ints m.texts b1 a.2 = s → (fun s => qbh_B2 n s.1.1 s.1.2.1 s.1.2.2 s.2.1.1 s.2.1.2.1 s.2.1.2.2.1 s.2.1.2.2.2.1 s.2.1.2.2.2.2 s.2.2.1 s.2.2.2) (((m.recs.length : Int), (a.1, (i : Int))), (mtup m, (b1, a.2))) = s := fun s h => h
    unfold qbh_B2 at hstep
    rw [lenI_eq, decide_eq_true (by omega), cond_true, getI_nat, hx, Option.bind_some] at hstep
    simp only [] at hstep
    rw [refTypes_eq n ar _ _ o1 (by omega) hn, Option.bind_some, lenI_eq, subI_i64 (by omega) (by omega), refTypes_eq n lo _ _ o3 (by omega) hn, Option.bind_some, typesR_ok, typesR_ok, refGood_eq n (k, nn), Option.bind_some, lenI_eq] at hstep
    have hfit : fitF m.recs.length (ar, k, nn, lo, co) = (goodsV m.recs.length 4 ar && (goodV m.recs.length (k, nn) && (goodsV m.recs.length (8 - (ar.length : Int)) lo && (decide (1 ≤ co.length) && (decide (co.length ≤ 64) && !co.any badI))))) := rfl
    rw [hfit] at exit
    cases ha : a.1 with
    | false =>
      rw [ha] at hstep exit
      exact .inr ⟨_, hstep _ rfl, .inr ⟨exit rfl, _, rfl⟩⟩
    | true =>
      rw [ha] at hstep exit
      cases g1 : goodsV m.recs.length 4 ar with
      | false =>
        rw [g1] at hstep exit
        exact .inr ⟨_, hstep _ rfl, .inr ⟨exit rfl, _, rfl⟩⟩
      | true =>
        rw [g1] at hstep exit
        cases g2 : goodsV m.recs.length (8 - (ar.length : Int)) lo with
        | false =>
          rw [g2] at hstep exit
          exact .inr ⟨_, hstep _ rfl, .inr ⟨exit (by simp), _, rfl⟩⟩
        | true =>
          rw [g2] at hstep exit
          cases g3 : goodV m.recs.length (k, nn) with
          | false =>
            rw [g3] at hstep exit
            exact .inr ⟨_, hstep _ rfl, .inr ⟨exit (by simp), _, rfl⟩⟩
          | true =>
            rw [g3] at hstep exit
            by_cases c1 : 1 ≤ co.length
            · rw [decide_eq_true (by omega : (co.length : Int) ≥ 1)] at hstep
              rw [decide_eq_true c1] at exit
              by_cases c2 : co.length ≤ 64
              · rw [decide_eq_true (by omega : (co.length : Int) ≤ 64)] at hstep
                rw [decide_eq_true c2] at exit
                rw [typesR_bytes g1] at hstep t1
                rw [typesR_bytes g2] at hstep t2
                simp only [cond_true, Bool.not_true, cond_false] at hstep
                rw [fits_le (by simp only [List.length_append]; omega), cond_true, refType_eq n (k, nn) o2 (by omega), Option.bind_some, fits_le (by simp only [List.length_append]; omega), cond_true, fits_le (by simp only [List.length_append]; omega), cond_true, cvtI_u64 (by omega) (by omega), refVar_eq n co.length (by omega) (by omega),
                  Option.bind_some, fits_le (by simp only [List.length_append]; omega), cond_true] at hstep
                obtain ⟨y, hy, hcase⟩ := refCode n m (m.recs.length : Int) (i : Int) b1 ((((a.2 ++ typesV ar) ++ typV (k, nn)) ++ typesV lo) ++ varN co.length) (ar, k, nn, lo, co) c2 (by simp only [List.length_append]; omega) hn
                rw [show qbh_W4 n (((m.recs.length : Int), (true, ((i : Int), 0))), ((m.recs, (m.funcs, (m.imps, (m.ints, m.texts)))), (b1, (((((a.2 ++ typesV ar) ++ typV (k, nn)) ++ typesV lo) ++ varN co.length), (ar, (k, (nn, (lo, co)))))))) = some y from hy, Option.bind_some] at hstep
                rcases hcase with ⟨hbad, rfl⟩ | ⟨hbad, z, rfl⟩
                · simp only [] at hstep
                  rw [next_i64 (by omega)] at hstep
                  refine .inl ⟨(true, ((((a.2 ++ typesV ar) ++ typV (k, nn)) ++ typesV lo) ++ varN co.length) ++ co.flatMap putV), hstep _ rfl, fun h => by omega, fun _ => ⟨rfl, hok.symm.trans ha⟩, ?_, ?_⟩
                  · rw [all_take_succ hx, hg, hfit, g1, g2, g3, decide_eq_true c1, decide_eq_true c2, hbad]; rfl
                  · rw [flatMap_take_succ hx, hbytes]
                    simp only [fncV, List.append_assoc]
                · exact .inr ⟨_, hstep _ rfl, .inr ⟨exit (by simp only [] at hbad; rw [hbad]; rfl), _, rfl⟩⟩
              · rw [decide_eq_false (by omega : ¬ (co.length : Int) ≤ 64)] at hstep
                rw [decide_eq_false c2] at exit
                exact .inr ⟨_, hstep _ rfl, .inr ⟨exit (by simp), _, rfl⟩⟩
            · rw [decide_eq_false (by omega : ¬ (co.length : Int) ≥ 1)] at hstep
              rw [decide_eq_false c1] at exit
              exact .inr ⟨_, hstep _ rfl, .inr ⟨exit (by simp), _, rfl⟩⟩
  · obtain ⟨ia, ib, hg, hbytes⟩ := hI
    rw [List.take_length] at hg hbytes
    obtain ⟨ha, hok⟩ := ib (by omega)
    refine ⟨_, ?_, .inl ⟨by rw [hok, hg]; rfl, rfl⟩⟩
    show qbh_B2 n (m.recs.length : Int) a.1 (m.funcs.length : Int) m.recs m.funcs m.imps m.ints m.texts b1 a.2 = _
    unfold qbh_B2
    rw [lenI_eq, decide_eq_false (by omega), cond_false, ha, hbytes]
    rfl
end Sx
