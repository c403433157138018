/- Which modules hang together, as the document has it; the statements on any module. -/
import Derived.Test.YtmfemlkbeehioaaModH
import Derived.KernelRfl
set_option linter.unusedVariables false
set_option linter.unusedSimpArgs false
namespace Sx
open Go Go.Ab
theorem answers7 : law07Answers 10000 = some true := by kernel_rfl
theorem refCheckCode (n : Nat) (m : ModD) (f : FnD) (t5 : Int) (hb : ∀ i ∈ f.2.2.2.2, badI i = false) (hl : f.2.2.2.2.length ≤ 64) (hn : 100 ≤ n) :
    ∃ y, ref01Check_W2 n ((t5, 0), (mtup m, f)) = some y ∧ ((f.2.2.2.2.any (fun i => !namedV m f i) = true ∧ y = Sum.inl (1, (mtup m, f))) ∨ (f.2.2.2.2.any (fun i => !namedV m f i) = false ∧ y = Sum.inr (t5, (mtup m, f)))) := by
  have h := loop_search (B := fun s => ref01Check_B2 n s.1.1 s.1.2 s.2.1.1 s.2.1.2.1 s.2.1.2.2.1 s.2.1.2.2.2.1 s.2.1.2.2.2.2 s.2.2.1 s.2.2.2.1 s.2.2.2.2.1 s.2.2.2.2.2.1 s.2.2.2.2.2.2) (xs := f.2.2.2.2) (mk := fun i => ((t5, (i : Int)), (mtup m, f)))
    (p := fun i => !namedV m f i) (found := fun i x => Sum.inl (1, (mtup m, f))) (e := Sum.inr (t5, (mtup m, f))) (fun i x hx => ?_) ?_ f.2.2.2.2.length 0 n (by omega) (by omega)
  · rw [List.drop_zero] at h
    rcases h with ⟨h1, k, x, _, _, h2⟩ | ⟨h1, h2⟩
    · exact ⟨_, h2, .inl ⟨h1, rfl⟩⟩
    · exact ⟨_, h2, .inr ⟨h1, rfl⟩⟩
  · have hi := lt_of_get hx
    show ref01Check_B2 n t5 (i : Int) m.recs m.funcs m.imps m.ints m.texts f.1 f.2.1 f.2.2.1 f.2.2.2.1 f.2.2.2.2 = _
    unfold ref01Check_B2
    rw [lenI_eq, decide_eq_true (by omega), cond_true, getI_nat, hx, Option.bind_some, named_eq n m f x (hb x (List.mem_of_getElem? hx)), Option.bind_some, next_i64 (by omega)]
    cases namedV m f x <;> rfl
  · show ref01Check_B2 n t5 (f.2.2.2.2.length : Int) m.recs m.funcs m.imps m.ints m.texts f.1 f.2.1 f.2.2.1 f.2.2.2.1 f.2.2.2.2 = _
    unfold ref01Check_B2
    rw [lenI_eq, decide_eq_false (by omega), cond_false]
theorem refCheckLocals (n : Nat) (m : ModD) (f : FnD) (t5 : Int) (hl : f.2.2.2.1.length ≤ 64) (hn : 100 ≤ n) :
    ∃ y, ref01Check_W4 n ((t5, 0), (mtup m, f)) = some y ∧ ((f.2.2.2.1.any (fun t => t.1 == 5) = true ∧ y = Sum.inl (1, (mtup m, f))) ∨ (f.2.2.2.1.any (fun t => t.1 == 5) = false ∧ y = Sum.inr (t5, (mtup m, f)))) := by
  have h := loop_search (B := fun s => ref01Check_B4 n s.1.1 s.1.2 s.2.1.1 s.2.1.2.1 s.2.1.2.2.1 s.2.1.2.2.2.1 s.2.1.2.2.2.2 s.2.2.1 s.2.2.2.1 s.2.2.2.2.1 s.2.2.2.2.2.1 s.2.2.2.2.2.2) (xs := f.2.2.2.1) (mk := fun i => ((t5, (i : Int)), (mtup m, f)))
    (p := fun t => t.1 == 5) (found := fun i x => Sum.inl (1, (mtup m, f))) (e := Sum.inr (t5, (mtup m, f))) (fun i x hx => ?_) ?_ f.2.2.2.1.length 0 n (by omega) (by omega)
  · rw [List.drop_zero] at h
    rcases h with ⟨h1, k, x, _, _, h2⟩ | ⟨h1, h2⟩
    · exact ⟨_, h2, .inl ⟨h1, rfl⟩⟩
    · exact ⟨_, h2, .inr ⟨h1, rfl⟩⟩
  · have hi := lt_of_get hx
    show ref01Check_B4 n t5 (i : Int) m.recs m.funcs m.imps m.ints m.texts f.1 f.2.1 f.2.2.1 f.2.2.2.1 f.2.2.2.2 = _
    unfold ref01Check_B4
    rw [lenI_eq, decide_eq_true (by omega), cond_true, getI_nat, hx, Option.bind_some, next_i64 (by omega)]
    cases x.1 == 5 <;> rfl
  · show ref01Check_B4 n t5 (f.2.2.2.1.length : Int) m.recs m.funcs m.imps m.ints m.texts f.1 f.2.1 f.2.2.1 f.2.2.2.1 f.2.2.2.2 = _
    unfold ref01Check_B4
    rw [lenI_eq, decide_eq_false (by omega), cond_false]
theorem refCheckHost (n : Nat) (m : ModD) (k : Nat) (i : ImD) (hk : m.imps[k]? = some i) (ok : Bool) (hl : i.1.length ≤ 64) (hn : 100 ≤ n) :
    ref01Check_W8 n (((k : Int), (ok, 0)), mtup m) = some (((k : Int), ok && i.1.all hostV), mtup m) := by
  have h := loop_fold (B := fun s => ref01Check_B8 n s.1.1 s.1.2.1 s.1.2.2 s.2.1 s.2.2.1 s.2.2.2.1 s.2.2.2.2.1 s.2.2.2.2.2) (xs := i.1) (mk := fun j (a : Bool) => (((k : Int), (a, (j : Int))), mtup m)) (f := fun a t => a && hostV t) (e := fun a => (((k : Int), a), mtup m)) (I := fun _ _ => True)
    (fun j a x hx _ => ⟨?_, trivial⟩) (fun a _ => ?_) i.1.length 0 n ok (by omega) trivial (by omega)
  · rw [List.drop_zero] at h
    have e : ∀ (l : List TyD) (b : Bool), l.foldl (fun a t => a && hostV t) b = (b && l.all hostV) := by
      intro l
      induction l with
      | nil => intro b; simp
      | cons x l ih => intro b; rw [List.foldl_cons, ih, List.all_cons, Bool.and_assoc]
    rw [e] at h
    exact h.1
  · have hj := lt_of_get hx
    show ref01Check_B8 n (k : Int) a (j : Int) m.recs m.funcs m.imps m.ints m.texts = _
    unfold ref01Check_B8
    rw [getI_nat, hk, Option.bind_some, lenI_eq, decide_eq_true (by omega), cond_true, Option.bind_some, getI_nat, hx, Option.bind_some, next_i64 (by omega)]
    cases a with
    | false => rfl
    | true =>
      show ((ref01Host n x.1 x.2).bind _) = _
      rw [show ref01Host n x.1 x.2 = some (hostV x) from host_eq n x]
      rfl
  · show ref01Check_B8 n (k : Int) a (i.1.length : Int) m.recs m.funcs m.imps m.ints m.texts = _
    unfold ref01Check_B8
    rw [getI_nat, hk, Option.bind_some, lenI_eq, decide_eq_false (by omega), cond_false]
theorem refCheck_eq (n : Nat) (m : ModD) (ho : OkM m) (hL : LightM m) (hn : 6000 ≤ n) : ref01Check n m.recs m.funcs m.imps m.ints m.texts = some (checkV m) := by
  unfold ref01Check checkV
  obtain ⟨b, e1, _⟩ := refModule_eq n m ho hL hn
  rw [e1, Option.bind_some]
  cases hf : fitsV m with
  | false => rfl
  | true =>
    obtain ⟨k1, k2, k3, k4, k5⟩ := fits_code hf
    show ((ref01Check_W0 n (0, mtup m)).bind _) = _
    have h := loop_rel (B := fun s => ref01Check_B0 n s.1 s.2.1 s.2.2.1 s.2.2.2.1 s.2.2.2.2.1 s.2.2.2.2.2) (xs := m.funcs) (mk := fun i (a : Unit) => ((i : Int), mtup m)) (I := fun i a => (m.funcs.take i).any (badF m) = false)
      (Q := fun y => (m.funcs.any (badF m) = true ∧ ∃ z, y = Sum.inl (1, z)) ∨ (m.funcs.any (badF m) = false ∧ y = Sum.inr (mtup m))) (fun i a x hx hI => ?_) (fun a hI => ?_) m.funcs.length 0 n () (by omega) rfl (by omega)
    · obtain ⟨y, h1, h2⟩ := h
      rw [show ref01Check_W0 n (0, mtup m) = some y from h1, Option.bind_some]
      rcases h2 with ⟨h3, z, rfl⟩ | ⟨h3, rfl⟩
      · rw [h3]; rfl
      · rw [h3]
        show ((ref01Check_W6 n (0, mtup m)).bind _) = _
        have h6 := loop_search (B := fun s => ref01Check_B6 n s.1 s.2.1 s.2.2.1 s.2.2.2.1 s.2.2.2.2.1 s.2.2.2.2.2) (xs := m.imps) (mk := fun i => ((i : Int), mtup m)) (p := badH) (found := fun i x => Sum.inl (1, mtup m)) (e := Sum.inr (mtup m))
          (fun i x hx => ?_) ?_ m.imps.length 0 n (by omega) (by omega)
        · rw [List.drop_zero] at h6
          rcases h6 with ⟨q1, k, x, _, _, q2⟩ | ⟨q1, q2⟩
          · rw [show ref01Check_W6 n (0, mtup m) = _ from q2, q1]; rfl
          · rw [show ref01Check_W6 n (0, mtup m) = _ from q2, q1]; rfl
        · have hi := lt_of_get hx
          show ref01Check_B6 n (i : Int) m.recs m.funcs m.imps m.ints m.texts = _
          unfold ref01Check_B6
          rw [lenI_eq, decide_eq_true (by omega), cond_true, getI_nat, hx, Option.bind_some, show ref01Host n x.2.1 x.2.2 = some (hostV (x.2.1, x.2.2)) from host_eq n (x.2.1, x.2.2), Option.bind_some]
          show ((ref01Check_W8 n (((i : Int), (hostV (x.2.1, x.2.2), 0)), mtup m)).bind _) = _
          rw [refCheckHost n m i x hx _ (k5 x (List.mem_of_getElem? hx)) (by omega), Option.bind_some]
          simp only []
          rw [next_i64 (by omega)]
          have : (!(hostV (x.2.1, x.2.2) && x.1.all hostV)) = badH x := by
            unfold badH
            rw [Bool.not_and, ← any_not hostV, Bool.not_not]
          rw [this]
          cases badH x <;> rfl
        · show ref01Check_B6 n (m.imps.length : Int) m.recs m.funcs m.imps m.ints m.texts = _
          unfold ref01Check_B6
          rw [lenI_eq, decide_eq_false (by omega), cond_false]
    · have hi := lt_of_get hx
      have hm := List.mem_of_getElem? hx
      obtain ⟨q1, q2, q3, _⟩ := k4 x hm
      obtain ⟨y, hy, hcase⟩ := refCheckCode n m x (i : Int) q1 q2 (by omega)
      obtain ⟨z, hz, hcase2⟩ := refCheckLocals n m x (i : Int) q3 (by omega)
      have hstep : ∀ s, ref01Check_B0 n (i : Int) m.recs m.funcs m.imps m.ints m.texts = s → (fun s => ref01Check_B0 n s.1 s.2.1 s.2.2.1 s.2.2.2.1 s.2.2.2.2.1 s.2.2.2.2.2) ((i : Int), mtup m) = s := fun s h => h
      unfold ref01Check_B0 at hstep
      rw [lenI_eq, decide_eq_true (by omega), cond_true, getI_nat, hx, Option.bind_some, show ref01Check_W2 n (((i : Int), 0), ((m.recs, (m.funcs, (m.imps, (m.ints, m.texts)))), (x.1, (x.2.1, (x.2.2.1, (x.2.2.2.1, x.2.2.2.2)))))) = _ from hy, Option.bind_some] at hstep
      rcases hcase with ⟨c1, rfl⟩ | ⟨c1, rfl⟩
      · refine .inr ⟨_, hstep _ rfl, .inl ⟨List.any_eq_true.2 ⟨x, hm, ?_⟩, _, rfl⟩⟩
        unfold badF; rw [c1]; rfl
      · simp only [] at hstep
        rw [show ref01Check_W4 n (((i : Int), 0), ((m.recs, (m.funcs, (m.imps, (m.ints, m.texts)))), (x.1, (x.2.1, (x.2.2.1, (x.2.2.2.1, x.2.2.2.2)))))) = _ from hz, Option.bind_some] at hstep
        rcases hcase2 with ⟨c2, rfl⟩ | ⟨c2, rfl⟩
        · refine .inr ⟨_, hstep _ rfl, .inl ⟨List.any_eq_true.2 ⟨x, hm, ?_⟩, _, rfl⟩⟩
          unfold badF; rw [c1, c2]; rfl
        · simp only [] at hstep
          rw [next_i64 (by omega)] at hstep
          refine .inl ⟨(), hstep _ rfl, ?_⟩
          rw [List.take_add_one, hx, List.any_append, hI]
          have : badF m x = false := by unfold badF; rw [c1, c2]; rfl
          simpa using this
    · rw [List.take_length] at hI
      refine ⟨_, ?_, .inr ⟨hI, rfl⟩⟩
      show ref01Check_B0 n (m.funcs.length : Int) m.recs m.funcs m.imps m.ints m.texts = _
      unfold ref01Check_B0
      rw [lenI_eq, decide_eq_false (by omega), cond_false]
/-! ### can it begin -/
noncomputable def mainV (m : ModD) : Bool := checkV m == 0 && match m.funcs with
  | [] => false
  | f :: _ => decide (f.1.length = 0) && f.2.1 == 1
theorem checkV_funcs {m : ModD} (h : checkV m = 0) : ∃ f r, m.funcs = f :: r := by
  unfold checkV at h
  cases hf : fitsV m with
  | false => rw [hf] at h; cases h
  | true =>
    have := (fits_code hf).2.2.1
    cases hm : m.funcs with
    | nil => rw [hm] at this; simp at this
    | cons f r => exact ⟨f, r, rfl⟩
theorem main_tail (m : ModD) (x : Option Int) (hx : x = some (checkV m)) :
    (x.bind fun r => bif r == 0 then (getI m.funcs 0).bind fun x1 => bif lenI x1.1 == 0 then (getI m.funcs 0).bind fun x2 => some (x2.2.1 == 1) else some false else some false) = some (mainV m) := by
  rw [hx, Option.bind_some]
  unfold mainV
  cases hc : checkV m == 0 with
  | false => rfl
  | true =>
    obtain ⟨f, r, hm⟩ := checkV_funcs (eq_of_beq hc)
    rw [hm]
    show (bif lenI f.1 == 0 then some (f.2.1 == 1) else some false) = some (true && (decide (f.1.length = 0) && f.2.1 == 1))
    rw [lenI_eq]
    by_cases h0 : f.1.length = 0
    · rw [show ((f.1.length : Int) == 0) = true by rw [h0]; rfl, decide_eq_true h0]
      simp
    · rw [show ((f.1.length : Int) == 0) = false by rw [beq_eq_false_iff_ne]; omega, decide_eq_false h0]
      simp
theorem main_eq (n : Nat) (m : ModD) (ho : OkM m) (hn : 200 ≤ n) : saneMain n m.recs m.funcs m.imps m.ints m.texts = some (mainV m) := main_tail m _ (check_eq n m ho hn)
theorem refMain_eq (n : Nat) (m : ModD) (ho : OkM m) (hL : LightM m) (hn : 6000 ≤ n) : ref01Main n m.recs m.funcs m.imps m.ints m.texts = some (mainV m) := main_tail m _ (refCheck_eq n m ho hL hn)
theorem sane_checks (m : ModD) (ho : OkM m) (hl : LenM m) : law07SaneChecks 10000 m.recs m.funcs m.imps m.ints m.texts = some true := by
  unfold law07SaneChecks
  obtain ⟨b, e, hL⟩ := refLight_eq 10000 m hl (by omega)
  rw [e, Option.bind_some, answers7]
  cases b with
  | false => rfl
  | true =>
    have hL := hL rfl
    rw [check_eq _ m ho (by omega), refCheck_eq _ m ho hL (by omega), main_eq _ m ho (by omega), refMain_eq _ m ho hL (by omega)]
    simp
theorem sane_main (k nn : Int) (args : List TyD) (hr : okT (k, nn)) (ha : okTs args) : law07SaneMain 10000 k nn args = some true := by
  unfold law07SaneMain
  rw [lenI_eq, answers7]
  by_cases h10 : args.length ≤ 10
  case neg => rw [decide_eq_true (by omega)]; rfl
  rw [decide_eq_false (by omega), cond_false, Option.bind_some, cond_true]
  have hm := main_eq 10000 ⟨[[]], [(args, (k, (nn, ([], [(26, (0, 0))]))))], [], [], []⟩ ⟨by simp [okTs], by
    intro f hf
    rw [List.mem_singleton] at hf
    subst hf
    exact ⟨ha, hr, by simp [okTs]⟩, by simp, by simp⟩ (by omega)
  simp only at hm
  rw [hm, Option.bind_some]
  by_cases h0 : args.length = 0
  · have : args = [] := List.eq_nil_of_length_eq_zero h0
    subst this
    rw [show (((([] : List TyD).length : Nat) : Int) == 0) = true from rfl, cond_true]
    by_cases h1 : k = 1
    · subst h1
      by_cases h2 : nn = 0
      · subst h2
        have : mainV ⟨[[]], [([], (1, (0, ([], [(26, (0, 0))]))))], [], [], []⟩ = true := by kernel_rfl
        rw [this]; rfl
      · have : mainV ⟨[[]], [([], (1, (nn, ([], [(26, (0, 0))]))))], [], [], []⟩ = false := by
          have hf : fitsV ⟨[[]], [([], (1, (nn, ([], [(26, (0, 0))]))))], [], [], []⟩ = false := by
            simp [fitsV, fitF, goodV, goodsV, h2]
          unfold mainV checkV
          rw [hf]; rfl
        rw [this, beq_false_of_ne h2]; rfl
    · have : mainV ⟨[[]], [([], (k, (nn, ([], [(26, (0, 0))]))))], [], [], []⟩ = false := by
        unfold mainV
        simp [h1]
      rw [this, beq_false_of_ne h1]; rfl
  · rw [show ((args.length : Int) == 0) = false by rw [beq_eq_false_iff_ne]; omega, cond_false]
    have : mainV ⟨[[]], [(args, (k, (nn, ([], [(26, (0, 0))]))))], [], [], []⟩ = false := by
      unfold mainV
      simp only [decide_eq_false h0, Bool.false_and, Bool.and_false]
    rw [this]; rfl
end Sx
