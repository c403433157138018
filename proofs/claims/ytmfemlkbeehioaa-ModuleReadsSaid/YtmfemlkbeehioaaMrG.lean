/- The rest of the document's bytes of a module; which modules are light. -/
import Derived.Test.YtmfemlkbeehioaaMrF
set_option linter.unusedVariables false
set_option linter.unusedSimpArgs false
namespace Sx
open Go Go.Ab
theorem refImps (n : Nat) (m : ModD) (ho : OkM m) (hL : LightM m) (h8 : m.imps.length ≤ 8) (b1 b2 : List Int) (hn : 6000 ≤ n) :
    ∃ b, qbh_W6 n (((m.recs.length : Int), (true, 0)), (mtup m, (b1, (b2, varN m.imps.length)))) = some (m.imps.all (fitI m.recs.length), (mtup m, (b1, (b2, b)))) ∧ b.length ≤ 2000000 ∧ (m.imps.all (fitI m.recs.length) = true → b = listV impV m.imps) := by
  have hv := varN_len m.imps.length
  have h := loop_rel (B := fun s => qbh_B6 n s.1.1 s.1.2.1 s.1.2.2 s.2.1.1 s.2.1.2.1 s.2.1.2.2.1 s.2.1.2.2.2.1 s.2.1.2.2.2.2 s.2.2.1 s.2.2.2.1 s.2.2.2.2) (xs := m.imps) (mk := fun i (a : Bool × List Int) => (((m.recs.length : Int), (a.1, (i : Int))), (mtup m, (b1, (b2, a.2)))))
    (I := fun i a => a.1 = (m.imps.take i).all (fitI m.recs.length) ∧ a.2.length ≤ 11 + 70000 * i ∧ (a.1 = true → a.2 = varN m.imps.length ++ (m.imps.take i).flatMap impV))
    (Q := fun y => ∃ b, y = (m.imps.all (fitI m.recs.length), (mtup m, (b1, (b2, b)))) ∧ b.length ≤ 2000000 ∧ (m.imps.all (fitI m.recs.length) = true → b = listV impV m.imps))
    (fun i a x hx hI => ?_) (fun a hI => ?_) m.imps.length 0 n (true, varN m.imps.length) (by omega) ⟨rfl, by simp; omega, fun _ => by simp⟩ (by omega)
  · obtain ⟨y, h1, b, rfl, h2⟩ := h
    exact ⟨b, h1, h2⟩
  · have hi := lt_of_get hx
    have hm := List.mem_of_getElem? hx
    have hxl := hL.imps x hm
    obtain ⟨o1, o2⟩ := ho.imps x hm
    obtain ⟨ar, k, nn⟩ := x
    simp only at hxl o1 o2
    have htl := typesR_len m.recs.length 4 ar
    have t3 := typV_len (k, nn)
    obtain ⟨h1, h2, h3⟩ := hI
    have hfit : fitI m.recs.length (ar, k, nn) = (goodsV m.recs.length 4 ar && goodV m.recs.length (k, nn)) := rfl
    refine .inl ⟨(a.1 && fitI m.recs.length (ar, k, nn), a.2 ++ (typesR m.recs.length 4 ar).1 ++ typV (k, nn)), ?_, ?_, ?_, ?_⟩
    · show qbh_B6 n (m.recs.length : Int) a.1 (i : Int) m.recs m.funcs m.imps m.ints m.texts b1 b2 a.2 = _
      unfold qbh_B6
      rw [lenI_eq, decide_eq_true (by omega), cond_true, getI_nat, hx, Option.bind_some]
      simp only [Option.bind_some]
      rw [refTypes_eq n ar _ _ o1 (by omega) hn, Option.bind_some, typesR_ok, refGood_eq n (k, nn), refType_eq n (k, nn) o2 (by omega), hfit]
      simp only [Option.bind_some]
      rw [fits_le (by simp only [List.length_append]; omega), fits_le (by simp only [List.length_append]; omega), next_i64 (by omega)]
      cases a.1 <;> cases goodsV m.recs.length 4 ar <;> rfl
    · rw [h1, all_take_succ hx]
    · simp only [List.length_append]; omega
    · intro hb
      simp only [Bool.and_eq_true, hfit] at hb
      simp only []
      rw [h3 hb.1, typesR_bytes hb.2.1, flatMap_take_succ hx]
      simp only [impV, List.append_assoc]
  · obtain ⟨h1, h2, h3⟩ := hI
    rw [List.take_length] at h1 h3
    refine ⟨_, ?_, a.2, rfl, by omega, fun hb => h3 (h1.trans hb)⟩
    show qbh_B6 n (m.recs.length : Int) a.1 (m.imps.length : Int) m.recs m.funcs m.imps m.ints m.texts b1 b2 a.2 = _
    unfold qbh_B6
    rw [lenI_eq, decide_eq_false (by omega), cond_false, h1]
theorem quo256 {v : Nat} (hv : v < 18446744073709551616) : quoI .u64 (v : Int) 256 = ((v / 256 : Nat) : Int) := by
  show IntKind.u64.wrap ((v : Int).tdiv 256) = _
  rw [Int.tdiv_eq_ediv_of_nonneg (by omega), wrapU64]
  omega
theorem refFixed8_eq (n : Nat) (v : Nat) (hv : v < 18446744073709551616) (hn : 20 ≤ n) : qbr n (v : Int) 8 = some (fixN 8 v) := by
  have h := loop_rel (B := fun s => qbr_B0 n s.1.1 s.1.2.1 s.1.2.2 s.2) (xs := List.range 8) (mk := fun i (a : List Int) => ((((v / 256 ^ i : Nat) : Int), ((8 : Int), (i : Int))), a)) (I := fun i a => a = (List.range i).map fun j => ((v / 256 ^ j % 256 : Nat) : Int)) (Q := fun y => y = fixN 8 v)
    (fun i a x hx hI => ?_) (fun a hI => ?_) 8 0 n [] (by simp) rfl (by omega)
  · obtain ⟨y, h1, rfl⟩ := h
    unfold qbr
    rw [Nat.pow_zero, Nat.div_one] at h1
    rw [show qbr_W0 n (((v : Int), ((8 : Int), 0)), []) = _ from h1]
    rfl
  · have hi := lt_of_get hx
    rw [List.length_range] at hi
    subst hI
    have hd : v / 256 ^ i < 18446744073709551616 := Nat.lt_of_le_of_lt (Nat.div_le_self _ _) hv
    have e1 : v / 256 ^ (i + 1) = v / 256 ^ i / 256 := by rw [Nat.pow_succ, Nat.div_div_eq_div_mul]
    have e2 : (List.range (i + 1)).map (fun j => ((v / 256 ^ j % 256 : Nat) : Int)) = (List.range i).map (fun j => ((v / 256 ^ j % 256 : Nat) : Int)) ++ [((v / 256 ^ i % 256 : Nat) : Int)] := by
      rw [List.range_succ, List.map_append]; rfl
    refine .inl ⟨_, ?_, rfl⟩
    rw [e1, e2]
    generalize v / 256 ^ i = q at hd
    show qbr_B0 n (q : Int) 8 (i : Int) ((List.range i).map fun j => ((v / 256 ^ j % 256 : Nat) : Int)) = _
    unfold qbr_B0
    rw [decide_eq_true (by omega), cond_true, cond_true, remI_nonneg (by omega), cvtI_u8 (by omega) (by omega), quo256 hd, fits_le (by simp; omega), cond_true, next_i64 (by omega)]
    rfl
  · subst hI
    refine ⟨_, ?_, rfl⟩
    rfl
theorem refInts (n : Nat) (m : ModD) (ho : OkM m) (h16 : m.ints.length ≤ 16) (ok : Bool) (b1 b2 b3 : List Int) (hn : 6000 ≤ n) :
    qbh_W8 n ((ok, 0), (mtup m, (b1, (b2, (b3, varN m.ints.length))))) = some (ok, (mtup m, (b1, (b2, (b3, listV (fun v => fixN 8 v.toNat) m.ints))))) := by
  have hv := varN_len m.ints.length
  have h := loop_write (B := fun s => qbh_B8 n s.1.1 s.1.2 s.2.1.1 s.2.1.2.1 s.2.1.2.2.1 s.2.1.2.2.2.1 s.2.1.2.2.2.2 s.2.2.1 s.2.2.2.1 s.2.2.2.2.1 s.2.2.2.2.2) (xs := m.ints) (mk := fun i a => ((ok, (i : Int)), (mtup m, (b1, (b2, (b3, a)))))) (f := fun v => fixN 8 v.toNat)
    (e := fun a => (ok, (mtup m, (b1, (b2, (b3, a)))))) (c := 8) (m0 := varN m.ints.length) (cap := 40000) (fun x hx => by rw [fixN_len]; omega) (by omega) (fun i a x hx hmem ha => ?_) (fun a => ?_) (n := n) (by omega)
  · exact h
  · have hi := lt_of_get hx
    have hxr := ho.ints x hmem
    obtain ⟨u, rfl⟩ : ∃ u : Nat, x = (u : Int) := ⟨x.toNat, by omega⟩
    show qbh_B8 n ok (i : Int) m.recs m.funcs m.imps m.ints m.texts b1 b2 b3 a = _
    unfold qbh_B8
    rw [fixN_len] at ha
    rw [lenI_eq, decide_eq_true (by omega), cond_true, getI_nat, hx, Option.bind_some, refFixed8_eq n u (by omega) (by omega), Option.bind_some, fits_le (by rw [List.length_append, fixN_len]; omega), cond_true, next_i64 (by omega), Int.toNat_natCast]
  · show qbh_B8 n ok (m.ints.length : Int) m.recs m.funcs m.imps m.ints m.texts b1 b2 b3 a = _
    unfold qbh_B8
    rw [lenI_eq, decide_eq_false (by omega), cond_false]
theorem txtV_len {s : ByteArray} : (txtV s).length ≤ 11 + s.size := by
  have := varN_len s.size
  rw [txtV, List.length_append, bytesInts_len]; omega
theorem refTexts (n : Nat) (m : ModD) (hL : LightM m) (h16 : m.texts.length ≤ 16) (ok : Bool) (b1 b2 b3 b4 : List Int) (hn : 6000 ≤ n) :
    qbh_W10 n ((ok, 0), (mtup m, (b1, (b2, (b3, (b4, varN m.texts.length)))))) = some (ok && m.texts.all fun s => decide (s.size ≤ 32), (mtup m, (b1, (b2, (b3, (b4, listV txtV m.texts)))))) := by
  have hv := varN_len m.texts.length
  have h := loop_rel (B := fun s => qbh_B10 n s.1.1 s.1.2 s.2.1.1 s.2.1.2.1 s.2.1.2.2.1 s.2.1.2.2.2.1 s.2.1.2.2.2.2 s.2.2.1 s.2.2.2.1 s.2.2.2.2.1 s.2.2.2.2.2.1 s.2.2.2.2.2.2) (xs := m.texts) (mk := fun i (a : Bool × List Int) => ((a.1, (i : Int)), (mtup m, (b1, (b2, (b3, (b4, a.2)))))))
    (I := fun i a => a.1 = (ok && (m.texts.take i).all fun s => decide (s.size ≤ 32)) ∧ a.2.length ≤ 11 + 3011 * i ∧ a.2 = varN m.texts.length ++ (m.texts.take i).flatMap txtV)
    (Q := fun y => y = (ok && m.texts.all fun s => decide (s.size ≤ 32), (mtup m, (b1, (b2, (b3, (b4, listV txtV m.texts)))))))
    (fun i a x hx hI => ?_) (fun a hI => ?_) m.texts.length 0 n (ok, varN m.texts.length) (by omega) ⟨by simp, by simp; omega, by simp⟩ (by omega)
  · obtain ⟨y, h1, rfl⟩ := h
    exact h1
  · have hi := lt_of_get hx
    have hs := hL.texts x (List.mem_of_getElem? hx)
    have hvx := varN_len x.size
    obtain ⟨h1, h2, h3⟩ := hI
    have hd : decide (lenS x ≤ 32) = decide (x.size ≤ 32) := by
      unfold lenS
      by_cases h : x.size ≤ 32
      · rw [decide_eq_true h, decide_eq_true (by omega)]
      · rw [decide_eq_false h, decide_eq_false (by omega)]
    refine .inl ⟨(a.1 && decide (x.size ≤ 32), a.2 ++ txtV x), ?_, ?_, ?_, ?_⟩
    · show qbh_B10 n a.1 (i : Int) m.recs m.funcs m.imps m.ints m.texts b1 b2 b3 b4 a.2 = _
      unfold qbh_B10
      rw [lenI_eq, decide_eq_true (by omega), cond_true, getI_nat, hx]
      simp only [Option.bind_some]
      rw [show cvtI .u64 (lenS x) = ((x.size : Nat) : Int) from cvtI_u64 (a := ((x.size : Nat) : Int)) (by omega) (by omega), refVar_eq n x.size (by omega) (by omega)]
      simp only [Option.bind_some]
      rw [fits_le (by rw [List.length_append]; omega), fits_le (by simp only [List.length_append, bytesInts_len]; omega), next_i64 (by omega), hd]
      cases a.1 <;> simp [txtV]
    · simp only []
      rw [h1, all_take_succ hx, Bool.and_assoc]
    · have := txtV_len (s := x)
      simp only [List.length_append]; omega
    · simp only []
      rw [h3, flatMap_take_succ hx, List.append_assoc]
  · obtain ⟨h1, h2, h3⟩ := hI
    rw [List.take_length] at h1 h3
    refine ⟨_, ?_, rfl⟩
    show qbh_B10 n a.1 (m.texts.length : Int) m.recs m.funcs m.imps m.ints m.texts b1 b2 b3 b4 a.2 = _
    unfold qbh_B10
    rw [lenI_eq, decide_eq_false (by omega), cond_false, h1, h3]
    rfl
theorem refJoin_eq (n : Nat) (l : List (List Int)) (hl : l.length ≤ 100) (hc : ∀ x ∈ l, x.length ≤ 3000000) (hn : 200 ≤ n) : qcc n l = some (joinV l) := by
  have hv := varN_len l.length
  have hc2 : ∀ x ∈ l, (varN x.length ++ x).length ≤ 3000011 := fun x hx => by
    have := varN_len x.length
    have := hc x hx
    rw [List.length_append]; omega
  unfold qcc
  rw [lenI_eq, cvtI_u64 (by omega) (by omega), refVar_eq n l.length (by omega) (by omega), Option.bind_some]
  have h := loop_write (B := fun s => qcc_B0 n s.1.1 s.1.2 s.2) (xs := l) (mk := fun i a => ((l, (i : Int)), a)) (f := fun p => varN p.length ++ p) (e := id) (c := 3000011) (m0 := varN l.length) (cap := 400000000)
    hc2 (by omega) (fun i a x hx hmem ha => ?_) (fun a => ?_) (n := n) (by omega)
  · rw [show qcc_W0 n ((l, 0), varN l.length) = _ from h, Option.bind_some]
    rfl
  · have hi := lt_of_get hx
    have hvx := varN_len x.length
    have hxl := hc x hmem
    rw [List.length_append] at ha
    show qcc_B0 n l (i : Int) a = _
    unfold qcc_B0
    rw [lenI_eq, decide_eq_true (by omega), cond_true, getI_nat, hx]
    simp only [Option.bind_some]
    rw [lenI_eq, cvtI_u64 (by omega) (by omega), refVar_eq n x.length (by omega) (by omega), Option.bind_some, fits_le (by rw [List.length_append]; omega), cond_true, fits_le (by simp only [List.length_append]; omega), cond_true, next_i64 (by omega), List.append_assoc]
  · show qcc_B0 n l (l.length : Int) a = _
    unfold qcc_B0
    rw [lenI_eq, decide_eq_false (by omega), cond_false]; rfl
theorem refModule_eq (n : Nat) (m : ModD) (ho : OkM m) (hL : LightM m) (hn : 6000 ≤ n) : ∃ b, qbh n m.recs m.funcs m.imps m.ints m.texts = some (b, fitsV m) ∧ (fitsV m = true → b = encV m) := by
  unfold qbh
  rw [lenI_eq m.recs, lenI_eq m.funcs, lenI_eq m.imps, lenI_eq m.ints, lenI_eq m.texts]
  have no : fitsV m = false → ∃ b : List Int, some (([] : List Int), false) = some (b, fitsV m) ∧ (fitsV m = true → b = encV m) := fun h => ⟨[], by rw [h], fun h' => by rw [h] at h'; cases h'⟩
  by_cases h1 : m.recs.length ≤ 8
  case neg =>
    rw [decide_eq_true (by omega : (m.recs.length : Int) > 8), cond_true]
    exact no (by unfold fitsV; rw [decide_eq_false h1]; rfl)
  rw [decide_eq_false (by omega : ¬ (m.recs.length : Int) > 8), cond_false]
  by_cases h2 : 1 ≤ m.funcs.length
  case neg =>
    rw [decide_eq_true (by omega : (m.funcs.length : Int) < 1), cond_true]
    exact no (by unfold fitsV; rw [decide_eq_false h2]; simp)
  rw [decide_eq_false (by omega : ¬ (m.funcs.length : Int) < 1), cond_false]
  by_cases h3 : m.funcs.length ≤ 8
  case neg =>
    rw [decide_eq_true (by omega : (m.funcs.length : Int) > 8), cond_true]
    exact no (by unfold fitsV; rw [decide_eq_false h3]; simp)
  rw [decide_eq_false (by omega : ¬ (m.funcs.length : Int) > 8), cond_false]
  by_cases h4 : m.imps.length ≤ 8
  case neg =>
    rw [decide_eq_true (by omega : (m.imps.length : Int) > 8), cond_true]
    exact no (by unfold fitsV; rw [decide_eq_false h4]; simp)
  rw [decide_eq_false (by omega : ¬ (m.imps.length : Int) > 8), cond_false]
  by_cases h5 : m.ints.length ≤ 16
  case neg =>
    rw [decide_eq_true (by omega : (m.ints.length : Int) > 16), cond_true]
    exact no (by unfold fitsV; rw [decide_eq_false h5]; simp)
  rw [decide_eq_false (by omega : ¬ (m.ints.length : Int) > 16), cond_false]
  by_cases h6 : m.texts.length ≤ 16
  case neg =>
    rw [decide_eq_true (by omega : (m.texts.length : Int) > 16), cond_true]
    exact no (by unfold fitsV; rw [decide_eq_false h6]; simp)
  rw [decide_eq_false (by omega : ¬ (m.texts.length : Int) > 16), cond_false]
  have hfits : fitsV m = (m.recs.all (goodsV m.recs.length 6) && m.funcs.all (fitF m.recs.length) && (m.imps.all (fitI m.recs.length) && m.texts.all fun s => decide (s.size ≤ 32))) := by
    unfold fitsV
    rw [decide_eq_true h1, decide_eq_true h2, decide_eq_true h3, decide_eq_true h4, decide_eq_true h5, decide_eq_true h6]
    simp only [Bool.true_and, Bool.and_assoc]
  obtain ⟨b1, e1, p1⟩ := refRecs n m ho hL h1 hn
  obtain ⟨y, e2, p2⟩ := refFuncs n m ho hL h2 h3 (m.recs.all (goodsV m.recs.length 6)) b1 hn
  rw [cvtI_u64 (by omega) (by omega), refVar_eq n m.recs.length (by omega) (by omega), Option.bind_some]
  rw [show qbh_W0 n (((m.recs.length : Int), (true, 0)), ((m.recs, (m.funcs, (m.imps, (m.ints, m.texts)))), varN m.recs.length)) = _ from e1, Option.bind_some]
  simp only []
  rw [lenI_eq m.funcs, cvtI_u64 (by omega) (by omega), refVar_eq n m.funcs.length (by omega) (by omega), Option.bind_some]
  rw [show qbh_W2 n (((m.recs.length : Int), (m.recs.all (goodsV m.recs.length 6), 0)), ((m.recs, (m.funcs, (m.imps, (m.ints, m.texts)))), (b1, varN m.funcs.length))) = _ from e2, Option.bind_some]
  rcases p2 with ⟨hf, rfl⟩ | ⟨hf, z, rfl⟩
  · have hf2 := hf
    rw [Bool.and_eq_true] at hf2
    obtain ⟨b3, e3, l3, p3⟩ := refImps n m ho hL h4 b1 (listV fncV m.funcs) hn
    simp only []
    rw [lenI_eq m.imps, cvtI_u64 (by omega) (by omega), refVar_eq n m.imps.length (by omega) (by omega), Option.bind_some]
    rw [show qbh_W6 n (((m.recs.length : Int), (true, 0)), ((m.recs, (m.funcs, (m.imps, (m.ints, m.texts)))), (b1, (listV fncV m.funcs, varN m.imps.length)))) = _ from e3, Option.bind_some]
    simp only []
    rw [lenI_eq m.ints, cvtI_u64 (by omega) (by omega), refVar_eq n m.ints.length (by omega) (by omega), Option.bind_some]
    rw [show qbh_W8 n ((m.imps.all (fitI m.recs.length), 0), ((m.recs, (m.funcs, (m.imps, (m.ints, m.texts)))), (b1, (listV fncV m.funcs, (b3, varN m.ints.length))))) = _ from refInts n m ho h5 _ b1 _ b3 hn, Option.bind_some]
    simp only []
    rw [lenI_eq m.texts, cvtI_u64 (by omega) (by omega), refVar_eq n m.texts.length (by omega) (by omega), Option.bind_some]
    rw [show qbh_W10 n ((m.imps.all (fitI m.recs.length), 0), ((m.recs, (m.funcs, (m.imps, (m.ints, m.texts)))), (b1, (listV fncV m.funcs, (b3, (listV (fun v => fixN 8 v.toNat) m.ints, varN m.texts.length)))))) = _ from refTexts n m hL h6 _ b1 _ b3 _ hn, Option.bind_some]
    simp only []
    have v1 := varN_len m.recs.length
    have v2 := varN_len m.funcs.length
    have v4 := varN_len m.ints.length
    have v5 := varN_len m.texts.length
    have c1 := flatMap_le typesV 143 m.recs fun x hx => by
      have := typesV_len x
      have := goodsV_len (List.all_eq_true.1 hf2.1 x hx)
      omega
    have c2 := flatMap_le fncV 1900 m.funcs fun x hx => (fncV_len (List.all_eq_true.1 hf2.2 x hx)).2.2.2.2
    have c4 := flatMap_le (fun v : Int => fixN 8 v.toNat) 8 m.ints fun x hx => by rw [fixN_len]; omega
    have c5 := flatMap_le txtV 3011 m.texts fun x hx => by
      have := txtV_len (s := x)
      have := hL.texts x hx
      omega
    rw [refJoin_eq n [b1, listV fncV m.funcs, b3, listV (fun v => fixN 8 v.toNat) m.ints, listV txtV m.texts] (by simp) ?_ (by omega), Option.bind_some]
    · refine ⟨_, by rw [hfits, hf2.1, hf2.2]; rfl, fun h => ?_⟩
      rw [hfits, Bool.and_eq_true, Bool.and_eq_true (m.imps.all _)] at h
      rw [p1 hf2.1, p3 h.2.1]
      rfl
    · intro x hx
      simp only [List.mem_cons, List.not_mem_nil, or_false] at hx
      rcases hx with rfl | rfl | rfl | rfl | rfl
      · rw [p1 hf2.1, listV, List.length_append]; omega
      · rw [listV, List.length_append]; omega
      · omega
      · rw [listV, List.length_append]; omega
      · rw [listV, List.length_append]; omega
  · exact no (by rw [hfits, hf]; rfl)
end Sx
