/- Which modules are light; which hang together. -/
import Derived.Test.YtmfemlkbeehioaaModG
set_option linter.unusedVariables false
set_option linter.unusedSimpArgs false
namespace Sx
open Go Go.Ab
/-- No slice and no string is greater than a machine's. -/
structure LenM (m : ModD) : Prop where
  n1 : m.recs.length ≤ 140737488351232
  n2 : m.funcs.length ≤ 140737488351232
  n3 : m.imps.length ≤ 140737488351232
  n4 : m.ints.length ≤ 140737488351232
  n5 : m.texts.length ≤ 140737488351232
  recs : ∀ l ∈ m.recs, l.length ≤ 140737488351232
  funcs : ∀ f ∈ m.funcs, f.1.length ≤ 140737488351232 ∧ f.2.2.2.1.length ≤ 140737488351232 ∧ f.2.2.2.2.length ≤ 140737488351232
  imps : ∀ i ∈ m.imps, i.1.length ≤ 140737488351232
  texts : ∀ s ∈ m.texts, s.size ≤ 140737488351232
/-- Lengths that are added up. -/
theorem loop_sum {S X A : Type} {B : S → Option (S ⊕ X)} {xs : List A} {mk : Nat → Int → S} {f : A → Nat} {e : Int → X} {c : Nat} {base : Int} (hb : 0 ≤ base) (hc : ∀ x ∈ xs, f x ≤ c) (hcap : base + (c : Int) * (xs.length : Int) ≤ 9000000000000000000)
    (hs : ∀ i a x, xs[i]? = some x → x ∈ xs → 0 ≤ a → a + (f x : Int) ≤ 9000000000000000000 → B (mk i a) = some (.inl (mk (i + 1) (a + (f x : Int))))) (he : ∀ a, B (mk xs.length a) = some (.inr (e a))) {n : Nat} (hn : xs.length < n) :
    ∃ a, loopS B n (mk 0 base) = some (e a) ∧ base ≤ a ∧ a ≤ base + (c : Int) * (xs.length : Int) ∧ ∀ x ∈ xs, (f x : Int) ≤ a := by
  have h := loop_rel (B := B) (xs := xs) (mk := mk) (I := fun i a => base ≤ a ∧ a ≤ base + (c : Int) * (i : Int) ∧ ∀ x ∈ xs.take i, (f x : Int) ≤ a) (Q := fun y => ∃ a, y = e a ∧ base ≤ a ∧ a ≤ base + (c : Int) * (xs.length : Int) ∧ ∀ x ∈ xs, (f x : Int) ≤ a)
    (fun i a x hx hI => ?_) (fun a hI => ?_) xs.length 0 n base (by omega) ⟨Int.le_refl _, by simp, by simp⟩ hn
  · obtain ⟨y, h1, a, rfl, h2⟩ := h
    exact ⟨a, h1, h2⟩
  · have hi := lt_of_get hx
    have hm := List.mem_of_getElem? hx
    have hcx := hc x hm
    obtain ⟨h1, h2, h3⟩ := hI
    have hmul : (c : Int) * (i : Int) + (c : Int) ≤ (c : Int) * (xs.length : Int) := by
      have : (c * (i + 1) : Nat) ≤ c * xs.length := Nat.mul_le_mul_left c hi
      rw [Nat.mul_succ] at this
      have h := Int.ofNat_le.2 this
      simpa using h
    have hsucc : (c : Int) * ((i + 1 : Nat) : Int) = (c : Int) * (i : Int) + (c : Int) := by
      rw [Int.natCast_add, Int.mul_add]; simp
    refine .inl ⟨_, hs i a x hx hm (by omega) (by omega), by omega, by rw [hsucc]; omega, fun z hz => ?_⟩
    rw [List.take_add_one, hx, List.mem_append] at hz
    rcases hz with hz | hz
    · have := h3 z hz; omega
    · simp at hz; subst hz; omega
  · obtain ⟨h1, h2, h3⟩ := hI
    rw [List.take_length] at h3
    exact ⟨_, he a, a, rfl, h1, h2, h3⟩
theorem add3_i64 {a b : Int} (h1 : 0 ≤ a) (h2 : 0 ≤ b) (h3 : a + b ≤ 9000000000000000000) : addI .i64 a b = a + b := addI_i64 (by omega) (by omega)
theorem refLight_eq (n : Nat) (m : ModD) (hl : LenM m) (hn : 6000 ≤ n) : ∃ b, ref01Light n m.recs m.funcs m.imps m.ints m.texts = some b ∧ (b = true → LightM m) := by
  unfold ref01Light
  have n1 := hl.n1
  have n2 := hl.n2
  have n3 := hl.n3
  have n4 := hl.n4
  have n5 := hl.n5
  have hs : addI .i64 (addI .i64 (addI .i64 (addI .i64 (lenI m.recs) (lenI m.funcs)) (lenI m.imps)) (lenI m.ints)) (lenI m.texts) = ((m.recs.length + m.funcs.length + m.imps.length + m.ints.length + m.texts.length : Nat) : Int) := by
    simp only [lenI_eq]
    rw [add3_i64 (b := ((m.funcs.length : Nat) : Int)) (by omega) (by omega) (by omega), add3_i64 (b := ((m.imps.length : Nat) : Int)) (by omega) (by omega) (by omega), add3_i64 (b := ((m.ints.length : Nat) : Int)) (by omega) (by omega) (by omega), add3_i64 (b := ((m.texts.length : Nat) : Int)) (by omega) (by omega) (by omega)]
    omega
  rw [hs]
  by_cases h200 : m.recs.length + m.funcs.length + m.imps.length + m.ints.length + m.texts.length ≤ 200
  case neg =>
    rw [decide_eq_true (by omega), cond_true]
    exact ⟨false, rfl, fun h => by cases h⟩
  rw [decide_eq_false (by omega), cond_false]
  obtain ⟨a1, e1, l1, u1, p1⟩ := loop_sum (B := fun s => ref01Light_B0 n s.1.1 s.1.2 s.2.1 s.2.2.1 s.2.2.2.1 s.2.2.2.2.1 s.2.2.2.2.2) (xs := m.recs) (mk := fun i (a : Int) => ((a, (i : Int)), mtup m)) (f := List.length) (e := fun a => (a, mtup m)) (c := 140737488351232)
    (base := ((m.recs.length + m.funcs.length + m.imps.length + m.ints.length + m.texts.length : Nat) : Int)) (by omega) hl.recs (by omega) (fun i a x hx hm h0 hcap => by
      have hi := lt_of_get hx
      show ref01Light_B0 n a (i : Int) m.recs m.funcs m.imps m.ints m.texts = _
      unfold ref01Light_B0
      rw [lenI_eq, decide_eq_true (by omega), cond_true, getI_nat, hx, Option.bind_some, lenI_eq, add3_i64 h0 (by omega) hcap, next_i64 (by omega)]) (fun a => by
      show ref01Light_B0 n a (m.recs.length : Int) m.recs m.funcs m.imps m.ints m.texts = _
      unfold ref01Light_B0
      rw [lenI_eq, decide_eq_false (by omega), cond_false]) (n := n) (by omega)
  rw [show ref01Light_W0 n ((((m.recs.length + m.funcs.length + m.imps.length + m.ints.length + m.texts.length : Nat) : Int), 0), (m.recs, (m.funcs, (m.imps, (m.ints, m.texts))))) = _ from e1, Option.bind_some]
  obtain ⟨a2, e2, l2, u2, p2⟩ := loop_sum (B := fun s => ref01Light_B2 n s.1.1 s.1.2 s.2.1 s.2.2.1 s.2.2.2.1 s.2.2.2.2.1 s.2.2.2.2.2) (xs := m.funcs) (mk := fun i (a : Int) => ((a, (i : Int)), mtup m)) (f := fun f => f.1.length + f.2.2.2.1.length + f.2.2.2.2.length) (e := fun a => (a, mtup m)) (c := 422212465053696)
    (base := a1) (by omega) (fun f hf => by obtain ⟨h1, h2, h3⟩ := hl.funcs f hf; omega) (by omega) (fun i a x hx hm h0 hcap => by
      have hi := lt_of_get hx
      show ref01Light_B2 n a (i : Int) m.recs m.funcs m.imps m.ints m.texts = _
      unfold ref01Light_B2
      rw [lenI_eq, decide_eq_true (by omega), cond_true, getI_nat, hx]
      simp only [Option.bind_some, lenI_eq]
      rw [add3_i64 (b := ((x.1.length : Nat) : Int)) h0 (by omega) (by omega), add3_i64 (b := ((x.2.2.2.1.length : Nat) : Int)) (by omega) (by omega) (by omega), add3_i64 (b := ((x.2.2.2.2.length : Nat) : Int)) (by omega) (by omega) (by omega), next_i64 (by omega)]
      have : a + ((x.1.length : Nat) : Int) + ((x.2.2.2.1.length : Nat) : Int) + ((x.2.2.2.2.length : Nat) : Int) = a + ((x.1.length + x.2.2.2.1.length + x.2.2.2.2.length : Nat) : Int) := by omega
      rw [this]) (fun a => by
      show ref01Light_B2 n a (m.funcs.length : Int) m.recs m.funcs m.imps m.ints m.texts = _
      unfold ref01Light_B2
      rw [lenI_eq, decide_eq_false (by omega), cond_false]) (n := n) (by omega)
  rw [show ref01Light_W2 n ((a1, 0), (m.recs, (m.funcs, (m.imps, (m.ints, m.texts))))) = _ from e2, Option.bind_some]
  obtain ⟨a3, e3, l3, u3, p3⟩ := loop_sum (B := fun s => ref01Light_B4 n s.1.1 s.1.2 s.2.1 s.2.2.1 s.2.2.2.1 s.2.2.2.2.1 s.2.2.2.2.2) (xs := m.imps) (mk := fun i (a : Int) => ((a, (i : Int)), mtup m)) (f := fun f => f.1.length) (e := fun a => (a, mtup m)) (c := 140737488351232)
    (base := a2) (by omega) hl.imps (by omega) (fun i a x hx hm h0 hcap => by
      have hi := lt_of_get hx
      show ref01Light_B4 n a (i : Int) m.recs m.funcs m.imps m.ints m.texts = _
      unfold ref01Light_B4
      rw [lenI_eq, decide_eq_true (by omega), cond_true, getI_nat, hx, Option.bind_some, lenI_eq, add3_i64 h0 (by omega) hcap, next_i64 (by omega)]) (fun a => by
      show ref01Light_B4 n a (m.imps.length : Int) m.recs m.funcs m.imps m.ints m.texts = _
      unfold ref01Light_B4
      rw [lenI_eq, decide_eq_false (by omega), cond_false]) (n := n) (by omega)
  rw [show ref01Light_W4 n ((a2, 0), (m.recs, (m.funcs, (m.imps, (m.ints, m.texts))))) = _ from e3, Option.bind_some]
  obtain ⟨a4, e4, l4, u4, p4⟩ := loop_sum (B := fun s => ref01Light_B6 n s.1.1 s.1.2 s.2.1 s.2.2.1 s.2.2.2.1 s.2.2.2.2.1 s.2.2.2.2.2) (xs := m.texts) (mk := fun i (a : Int) => ((a, (i : Int)), mtup m)) (f := ByteArray.size) (e := fun a => (a, mtup m)) (c := 140737488351232)
    (base := a3) (by omega) hl.texts (by omega) (fun i a x hx hm h0 hcap => by
      have hi := lt_of_get hx
      show ref01Light_B6 n a (i : Int) m.recs m.funcs m.imps m.ints m.texts = _
      unfold ref01Light_B6
      rw [lenI_eq, decide_eq_true (by omega), cond_true, getI_nat, hx, Option.bind_some, show lenS x = ((x.size : Nat) : Int) from rfl, add3_i64 h0 (by omega) hcap, next_i64 (by omega)]) (fun a => by
      show ref01Light_B6 n a (m.texts.length : Int) m.recs m.funcs m.imps m.ints m.texts = _
      unfold ref01Light_B6
      rw [lenI_eq, decide_eq_false (by omega), cond_false]) (n := n) (by omega)
  rw [show ref01Light_W6 n ((a3, 0), (m.recs, (m.funcs, (m.imps, (m.ints, m.texts))))) = _ from e4, Option.bind_some]
  refine ⟨_, rfl, fun h => ?_⟩
  have h3000 := of_decide_eq_true h
  simp only at h3000
  refine ⟨by omega, by omega, by omega, by omega, by omega, fun x hx => ?_, fun x hx => ?_, fun x hx => ?_, fun x hx => ?_⟩
  · have := p1 x hx; omega
  · have := p2 x hx; omega
  · have := p3 x hx; omega
  · have := p4 x hx; omega
/-! ### what is named is there -/
noncomputable def namedV (m : ModD) (f : FnD) (i : InD) : Bool := (ref01Named 0 m.recs m.funcs m.imps m.ints m.texts f.1 f.2.1 f.2.2.1 f.2.2.2.1 f.2.2.2.2 i.1 i.2.1 i.2.2).getD false
theorem badI_range {i : InD} (h : badI i = false) : 0 ≤ i.2.1 ∧ i.2.1 ≤ 255 ∧ 0 ≤ i.2.2 ∧ i.2.2 ≤ 255 := by
  have := of_decide_eq_false h
  omega
theorem ex_cond {β : Type} {c : Bool} {a b : Option β} (ha : ∃ x, a = some x) (hb : ∃ x, b = some x) : ∃ x, (bif c then a else b) = some x := by cases c; exact hb; exact ha
theorem named_eq (n : Nat) (m : ModD) (f : FnD) (i : InD) (hb : badI i = false) : ref01Named n m.recs m.funcs m.imps m.ints m.texts f.1 f.2.1 f.2.2.1 f.2.2.2.1 f.2.2.2.2 i.1 i.2.1 i.2.2 = some (namedV m f i) := by
  obtain ⟨h1, _, _, _⟩ := badI_range hb
  have key : ∃ b, ref01Named n m.recs m.funcs m.imps m.ints m.texts f.1 f.2.1 f.2.2.1 f.2.2.2.1 f.2.2.2.2 i.1 i.2.1 i.2.2 = some b := by
    have hg : (bif decide (i.2.1 < lenI m.recs) then (getI m.recs i.2.1).bind fun x => some (decide (i.2.2 < lenI x)) else some false) = some (bif decide (i.2.1 < lenI m.recs) then decide (i.2.2 < lenI ((getI m.recs i.2.1).getD [])) else false) := by
      cases hlt : decide (i.2.1 < lenI m.recs) with
      | false => rfl
      | true =>
        have hlt := of_decide_eq_true hlt
        rw [lenI_eq] at hlt
        obtain ⟨u, hu⟩ : ∃ u : Nat, i.2.1 = (u : Int) := ⟨i.2.1.toNat, by omega⟩
        rw [hu, getI_nat, List.getElem?_eq_getElem (by omega)]
        rfl
    unfold ref01Named
    rw [hg]
    exact ex_cond ⟨_, rfl⟩ (ex_cond ⟨_, rfl⟩ (ex_cond ⟨_, rfl⟩ (ex_cond ⟨_, rfl⟩ (ex_cond ⟨_, rfl⟩ (ex_cond ⟨_, rfl⟩ (ex_cond ⟨_, rfl⟩ (ex_cond ⟨_, rfl⟩ (ex_cond ⟨_, rfl⟩ (ex_cond ⟨_, rfl⟩ (ex_cond ⟨_, rfl⟩ ⟨_, rfl⟩))))))))))
  obtain ⟨b, hb⟩ := key
  have : namedV m f i = b := by
    unfold namedV
    rw [show ref01Named 0 m.recs m.funcs m.imps m.ints m.texts f.1 f.2.1 f.2.2.1 f.2.2.2.1 f.2.2.2.2 i.1 i.2.1 i.2.2 = some b from hb]
    rfl
  rw [hb, this]
theorem saneNames_eq (n : Nat) (m : ModD) (f : FnD) (i : InD) (hb : badI i = false) : saneNames n m.recs m.funcs m.imps m.ints m.texts f.1 f.2.1 f.2.2.1 f.2.2.2.1 f.2.2.2.2 i.1 i.2.1 i.2.2 = some (namedV m f i) := by
  rw [← named_eq n m f i hb]
  rfl
def hostV (t : TyD) : Bool := t.1 == 1 || t.1 == 5
theorem host_eq (n : Nat) (t : TyD) : saneHost n t.1 t.2 = some (hostV t) := by
  unfold saneHost hostV
  cases t.1 == 1 <;> rfl
noncomputable def badF (m : ModD) (f : FnD) : Bool := f.2.2.2.2.any (fun i => !namedV m f i) || f.2.2.2.1.any (fun t => t.1 == 5)
def badH (i : ImD) : Bool := !hostV (i.2.1, i.2.2) || i.1.any fun t => !hostV t
/-- Whether a module hangs together, or why not. -/
noncomputable def checkV (m : ModD) : Int := if fitsV m = false then 2 else if m.funcs.any (badF m) = true then 1 else if m.imps.any badH = true then 1 else 0
theorem findNamed (n : Nat) (m : ModD) (f : FnD) (hb : ∀ i ∈ f.2.2.2.2, badI i = false) (hl : f.2.2.2.2.length ≤ 64) (hn : 100 ≤ n) :
    ContainsFuncInstrv1 n f.2.2.2.2 m.recs m.funcs m.imps m.ints m.texts f.1 f.2.1 f.2.2.1 f.2.2.2.1 f.2.2.2.2 = some (f.2.2.2.2.any (fun i => !namedV m f i), (mtup m, f)) := by
  unfold ContainsFuncInstrv1 IndexFuncInstrv1
  have h := loop_search (B := fun s => IndexFuncInstrv1_B0 n s.1.1 s.1.2.1 s.1.2.2 s.2.1.1 s.2.1.2.1 s.2.1.2.2.1 s.2.1.2.2.2.1 s.2.1.2.2.2.2 s.2.2.1 s.2.2.2.1 s.2.2.2.2.1 s.2.2.2.2.2.1 s.2.2.2.2.2.2) (xs := f.2.2.2.2) (mk := fun i => ((f.2.2.2.2, (lenI f.2.2.2.2, (i : Int))), (mtup m, f)))
    (p := fun i => !namedV m f i) (found := fun i x => Sum.inl ((i : Int), (mtup m, f))) (e := Sum.inr (mtup m, f)) (fun i x hx => ?_) ?_ f.2.2.2.2.length 0 n (by omega) (by omega)
  · rw [List.drop_zero] at h
    rcases h with ⟨h1, k, x, _, _, h2⟩ | ⟨h1, h2⟩
    · rw [show IndexFuncInstrv1_W0 n ((f.2.2.2.2, (lenI f.2.2.2.2, 0)), ((m.recs, (m.funcs, (m.imps, (m.ints, m.texts)))), (f.1, (f.2.1, (f.2.2.1, (f.2.2.2.1, f.2.2.2.2)))))) = _ from h2, h1]
      show some (decide ((k : Int) ≥ 0), _) = _
      rw [decide_eq_true (by omega)]
    · rw [show IndexFuncInstrv1_W0 n ((f.2.2.2.2, (lenI f.2.2.2.2, 0)), ((m.recs, (m.funcs, (m.imps, (m.ints, m.texts)))), (f.1, (f.2.1, (f.2.2.1, (f.2.2.2.1, f.2.2.2.2)))))) = _ from h2, h1]
      rfl
  · have hi := lt_of_get hx
    show IndexFuncInstrv1_B0 n f.2.2.2.2 (lenI f.2.2.2.2) (i : Int) m.recs m.funcs m.imps m.ints m.texts f.1 f.2.1 f.2.2.1 f.2.2.2.1 f.2.2.2.2 = _
    unfold IndexFuncInstrv1_B0 saneCheck1
    rw [lenI_eq, decide_eq_true (by omega), cond_true, getI_nat, hx, Option.bind_some, saneNames_eq n m f x (hb x (List.mem_of_getElem? hx)), Option.bind_some, Option.bind_some, next_i64 (by omega)]
    cases namedV m f x <;> rfl
  · show IndexFuncInstrv1_B0 n f.2.2.2.2 (lenI f.2.2.2.2) (f.2.2.2.2.length : Int) m.recs m.funcs m.imps m.ints m.texts f.1 f.2.1 f.2.2.1 f.2.2.2.1 f.2.2.2.2 = _
    unfold IndexFuncInstrv1_B0
    rw [lenI_eq, decide_eq_false (by omega), cond_false]
theorem findHan (n : Nat) (l : List TyD) (hl : l.length ≤ 64) (hn : 100 ≤ n) : ContainsFuncTypev1 n l = some (l.any fun t => t.1 == 5) := by
  unfold ContainsFuncTypev1 IndexFuncTypev1
  have h := loop_search (B := fun s => IndexFuncTypev1_B0 n s.1 s.2.1 s.2.2) (xs := l) (mk := fun i => (l, (lenI l, (i : Int)))) (p := fun t => t.1 == 5) (found := fun i x => Sum.inl (i : Int)) (e := Sum.inr ())
    (fun i x hx => ?_) ?_ l.length 0 n (by omega) (by omega)
  · rw [List.drop_zero] at h
    rcases h with ⟨h1, k, x, _, _, h2⟩ | ⟨h1, h2⟩
    · rw [show IndexFuncTypev1_W0 n (l, (lenI l, 0)) = some (Sum.inl (k : Int)) from h2, h1]
      show some (decide ((k : Int) ≥ 0)) = _
      rw [decide_eq_true (by omega)]
    · rw [show IndexFuncTypev1_W0 n (l, (lenI l, 0)) = some (Sum.inr ()) from h2, h1]
      rfl
  · have hi := lt_of_get hx
    show IndexFuncTypev1_B0 n l (lenI l) (i : Int) = _
    unfold IndexFuncTypev1_B0 saneCheck2
    rw [lenI_eq, decide_eq_true (by omega), cond_true, getI_nat, hx, Option.bind_some, Option.bind_some, next_i64 (by omega)]
    cases x.1 == 5 <;> rfl
  · show IndexFuncTypev1_B0 n l (lenI l) (l.length : Int) = _
    unfold IndexFuncTypev1_B0
    rw [lenI_eq, decide_eq_false (by omega), cond_false]
theorem findNoHost (n : Nat) (l : List TyD) (hl : l.length ≤ 64) (hn : 100 ≤ n) : ContainsFuncTypev2 n l = some (l.any fun t => !hostV t) := by
  unfold ContainsFuncTypev2 IndexFuncTypev2
  have h := loop_search (B := fun s => IndexFuncTypev2_B0 n s.1 s.2.1 s.2.2) (xs := l) (mk := fun i => (l, (lenI l, (i : Int)))) (p := fun t => !hostV t) (found := fun i x => Sum.inl (i : Int)) (e := Sum.inr ())
    (fun i x hx => ?_) ?_ l.length 0 n (by omega) (by omega)
  · rw [List.drop_zero] at h
    rcases h with ⟨h1, k, x, _, _, h2⟩ | ⟨h1, h2⟩
    · rw [show IndexFuncTypev2_W0 n (l, (lenI l, 0)) = some (Sum.inl (k : Int)) from h2, h1]
      show some (decide ((k : Int) ≥ 0)) = _
      rw [decide_eq_true (by omega)]
    · rw [show IndexFuncTypev2_W0 n (l, (lenI l, 0)) = some (Sum.inr ()) from h2, h1]
      rfl
  · have hi := lt_of_get hx
    show IndexFuncTypev2_B0 n l (lenI l) (i : Int) = _
    unfold IndexFuncTypev2_B0 saneCheck31
    rw [lenI_eq, decide_eq_true (by omega), cond_true, getI_nat, hx, Option.bind_some, host_eq n x, Option.bind_some, Option.bind_some, next_i64 (by omega)]
    cases hostV x <;> rfl
  · show IndexFuncTypev2_B0 n l (lenI l) (l.length : Int) = _
    unfold IndexFuncTypev2_B0
    rw [lenI_eq, decide_eq_false (by omega), cond_false]
theorem badH_eq (n : Nat) (i : ImD) (hl : i.1.length ≤ 64) (hn : 100 ≤ n) : saneCheck3 n i.1 i.2.1 i.2.2 = some (badH i) := by
  unfold saneCheck3 badH
  rw [host_eq n (i.2.1, i.2.2), Option.bind_some]
  cases hostV (i.2.1, i.2.2) with
  | false => rfl
  | true => rw [Bool.not_true, cond_false, findNoHost n i.1 hl hn]; rfl
theorem findBadH (n : Nat) (l : List ImD) (hb : ∀ i ∈ l, i.1.length ≤ 64) (hl : l.length ≤ 64) (hn : 100 ≤ n) : ContainsFuncImportv1 n l = some (l.any badH) := by
  unfold ContainsFuncImportv1 IndexFuncImportv1
  have h := loop_search (B := fun s => IndexFuncImportv1_B0 n s.1 s.2.1 s.2.2) (xs := l) (mk := fun i => (l, (lenI l, (i : Int)))) (p := badH) (found := fun i x => Sum.inl (i : Int)) (e := Sum.inr ())
    (fun i x hx => ?_) ?_ l.length 0 n (by omega) (by omega)
  · rw [List.drop_zero] at h
    rcases h with ⟨h1, k, x, _, _, h2⟩ | ⟨h1, h2⟩
    · rw [show IndexFuncImportv1_W0 n (l, (lenI l, 0)) = some (Sum.inl (k : Int)) from h2, h1]
      show some (decide ((k : Int) ≥ 0)) = _
      rw [decide_eq_true (by omega)]
    · rw [show IndexFuncImportv1_W0 n (l, (lenI l, 0)) = some (Sum.inr ()) from h2, h1]
      rfl
  · have hi := lt_of_get hx
    show IndexFuncImportv1_B0 n l (lenI l) (i : Int) = _
    unfold IndexFuncImportv1_B0
    rw [lenI_eq, decide_eq_true (by omega), cond_true, getI_nat, hx, Option.bind_some, badH_eq n x (hb x (List.mem_of_getElem? hx)) hn, Option.bind_some, next_i64 (by omega)]
    cases badH x <;> rfl
  · show IndexFuncImportv1_B0 n l (lenI l) (l.length : Int) = _
    unfold IndexFuncImportv1_B0
    rw [lenI_eq, decide_eq_false (by omega), cond_false]
theorem fits_code {m : ModD} (h : fitsV m = true) : m.funcs.length ≤ 8 ∧ m.imps.length ≤ 8 ∧ 1 ≤ m.funcs.length ∧ (∀ f ∈ m.funcs, (∀ i ∈ f.2.2.2.2, badI i = false) ∧ f.2.2.2.2.length ≤ 64 ∧ f.2.2.2.1.length ≤ 64 ∧ 1 ≤ f.2.2.2.2.length ∧ f.1.length ≤ 4) ∧ ∀ i ∈ m.imps, i.1.length ≤ 64 := by
  simp only [fitsV, Bool.and_eq_true, decide_eq_true_eq, List.all_eq_true] at h
  obtain ⟨_, _, h0, h1, h2, h3, h4, _⟩ := h
  refine ⟨h1, h3, h0, fun f hf => ?_, fun i hi => ?_⟩
  · have hl := fncV_len (h2 f hf)
    have h5 := h2 f hf
    simp only [fitF, Bool.and_eq_true, Bool.not_eq_true', List.any_eq_false] at h5
    exact ⟨fun i hi => by simpa using h5.2.2.2.2.2 i hi, hl.2.2.2.1, by omega, hl.2.2.1, hl.1⟩
  · have := (impV_len (h4 i hi)).1; omega
theorem check_eq (n : Nat) (m : ModD) (ho : OkM m) (hn : 200 ≤ n) : saneCheck n m.recs m.funcs m.imps m.ints m.texts = some (checkV m) := by
  unfold saneCheck checkV
  rw [encode_eq n m ho hn, Option.bind_some]
  cases hf : fitsV m with
  | false => rfl
  | true =>
    obtain ⟨k1, k2, k3, k4, k5⟩ := fits_code hf
    rw [if_pos rfl]
    show ((saneCheck_W0 n ((m.funcs, (lenI m.funcs, 0)), mtup m)).bind _) = _
    have h := loop_rel (B := fun s => saneCheck_B0 n s.1.1 s.1.2.1 s.1.2.2 s.2.1 s.2.2.1 s.2.2.2.1 s.2.2.2.2.1 s.2.2.2.2.2) (xs := m.funcs) (mk := fun i (a : Unit) => ((m.funcs, (lenI m.funcs, (i : Int))), mtup m)) (I := fun i a => (m.funcs.take i).any (badF m) = false)
      (Q := fun y => (m.funcs.any (badF m) = true ∧ ∃ z, y = Sum.inl (1, z)) ∨ (m.funcs.any (badF m) = false ∧ y = Sum.inr (mtup m))) (fun i a x hx hI => ?_) (fun a hI => ?_) m.funcs.length 0 n () (by omega) rfl (by omega)
    · obtain ⟨y, h1, h2⟩ := h
      rw [show saneCheck_W0 n ((m.funcs, (lenI m.funcs, 0)), mtup m) = some y from h1, Option.bind_some]
      rcases h2 with ⟨h3, z, rfl⟩ | ⟨h3, rfl⟩
      · rw [h3]; rfl
      · rw [h3]
        show ((ContainsFuncImportv1 n m.imps).bind _) = _
        rw [findBadH n m.imps k5 (by omega) (by omega), Option.bind_some]
        cases m.imps.any badH <;> rfl
    · have hi := lt_of_get hx
      have hm := List.mem_of_getElem? hx
      obtain ⟨q1, q2, q3, _⟩ := k4 x hm
      have hb : saneCheck_B0 n m.funcs (lenI m.funcs) (i : Int) m.recs m.funcs m.imps m.ints m.texts = (if badF m x = true then some (Sum.inr (Sum.inl (1, (mtup m, x)))) else some (Sum.inl ((m.funcs, (lenI m.funcs, ((i + 1 : Nat) : Int))), mtup m))) := by
        unfold saneCheck_B0 badF
        rw [lenI_eq, decide_eq_true (by omega), cond_true, getI_nat, hx, Option.bind_some, findNamed n m x q1 q2 (by omega), Option.bind_some]
        cases x.2.2.2.2.any fun i => !namedV m x i with
        | true => rfl
        | false =>
          show ((ContainsFuncTypev1 n x.2.2.2.1).bind _) = _
          rw [findHan n x.2.2.2.1 q3 (by omega), Option.bind_some, next_i64 (by omega)]
          cases x.2.2.2.1.any fun t => t.1 == 5 <;> rfl
      by_cases hbx : badF m x = true
      · rw [if_pos hbx] at hb
        exact .inr ⟨_, hb, .inl ⟨List.any_eq_true.2 ⟨x, hm, hbx⟩, _, rfl⟩⟩
      · rw [if_neg hbx] at hb
        refine .inl ⟨(), hb, ?_⟩
        rw [List.take_add_one, hx, List.any_append, hI]
        simpa using hbx
    · rw [List.take_length] at hI
      refine ⟨_, ?_, .inr ⟨hI, rfl⟩⟩
      show saneCheck_B0 n m.funcs (lenI m.funcs) (m.funcs.length : Int) m.recs m.funcs m.imps m.ints m.texts = _
      unfold saneCheck_B0
      rw [lenI_eq, decide_eq_false (by omega), cond_false]
end Sx
