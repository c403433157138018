/- Which modules are light; which hang together. -/
import Derived.Test.YtmfemlkbeehioaaMrG
set_option linter.unusedVariables false
set_option linter.unusedSimpArgs false
namespace Sx
open Go Go.Ab
/-- No slice and no string is greater than a machine's. -/
structure LenM (m : ModD) : Prop where
  n1 : m.recs.length ≤ 140737488351232
  n2 : m.funcs.length ≤ 140737488351232
  n3 : m.imps.length ≤ 140737488351232
  n4 : m.ints.length ≤ 140737488351232
  n5 : m.texts.length ≤ 140737488351232
  recs : ∀ l ∈ m.recs, l.length ≤ 140737488351232
  funcs : ∀ f ∈ m.funcs, f.1.length ≤ 140737488351232 ∧ f.2.2.2.1.length ≤ 140737488351232 ∧ f.2.2.2.2.length ≤ 140737488351232
  imps : ∀ i ∈ m.imps, i.1.length ≤ 140737488351232
  texts : ∀ s ∈ m.texts, s.size ≤ 140737488351232
/-- Lengths that are added up. -/
theorem loop_sum {S X A : Type} {B : S → Option (S ⊕ X)} {xs : List A} {mk : Nat → Int → S} {f : A → Nat} {e : Int → X} {c : Nat} {base : Int} (hb : 0 ≤ base) (hc : ∀ x ∈ xs, f x ≤ c) (hcap : base + (c : Int) * (xs.length : Int) ≤ 9000000000000000000)
    (hs : ∀ i a x, xs[i]? = some x → x ∈ xs → 0 ≤ a → a + (f x : Int) ≤ 9000000000000000000 → B (mk i a) = some (.inl (mk (i + 1) (a + (f x : Int))))) (he : ∀ a, B (mk xs.length a) = some (.inr (e a))) {n : Nat} (hn : xs.length < n) :
    ∃ a, loopS B n (mk 0 base) = some (e a) ∧ base ≤ a ∧ a ≤ base + (c : Int) * (xs.length : Int) ∧ ∀ x ∈ xs, (f x : Int) ≤ a := by
  have h := loop_rel (B := B) (xs := xs) (mk := mk) (I := fun i a => base ≤ a ∧ a ≤ base + (c : Int) * (i : Int) ∧ ∀ x ∈ xs.take i, (f x : Int) ≤ a) (Q := fun y => ∃ a, y = e a ∧ base ≤ a ∧ a ≤ base + (c : Int) * (xs.length : Int) ∧ ∀ x ∈ xs, (f x : Int) ≤ a)
    (fun i a x hx hI => ?_) (fun a hI => ?_) xs.length 0 n base (by omega) ⟨Int.le_refl _, by simp, by simp⟩ hn
  · obtain ⟨y, h1, a, rfl, h2⟩ := h
    exact ⟨a, h1, h2⟩
  · have hi := lt_of_get hx
    have hm := List.mem_of_getElem? hx
    have hcx := hc x hm
    obtain ⟨h1, h2, h3⟩ := hI
    have hmul : (c : Int) * (i : Int) + (c : Int) ≤ (c : Int) * (xs.length : Int) := by
      have : (c * (i + 1) : Nat) ≤ c * xs.length := Nat.mul_le_mul_left c hi
      rw [Nat.mul_succ] at this
      have h := Int.ofNat_le.2 this
      simpa using h
    have hsucc : (c : Int) * ((i + 1 : Nat) : Int) = (c : Int) * (i : Int) + (c : Int) := by
      rw [Int.natCast_add, Int.mul_add]; simp
    refine .inl ⟨_, hs i a x hx hm (by omega) (by omega), by omega, by rw [hsucc]; omega, fun z hz => ?_⟩
    rw [List.take_add_one, hx, List.mem_append] at hz
    rcases hz with hz | hz
    · have := h3 z hz; omega
    · simp at hz; subst hz; omega
  · obtain ⟨h1, h2, h3⟩ := hI
    rw [List.take_length] at h3
    exact ⟨_, he a, a, rfl, h1, h2, h3⟩
theorem add3_i64 {a b : Int} (h1 : 0 ≤ a) (h2 : 0 ≤ b) (h3 : a + b ≤ 9000000000000000000) : addI .i64 a b = a + b := addI_i64 (by omega) (by omega)
theorem refLight_eq (n : Nat) (m : ModD) (hl : LenM m) (hn : 6000 ≤ n) : ∃ b, ref01Light n m.recs m.funcs m.imps m.ints m.texts = some b ∧ (b = true → LightM m) := by
  unfold ref01Light
  have n1 := hl.n1
  have n2 := hl.n2
  have n3 := hl.n3
  have n4 := hl.n4
  have n5 := hl.n5
  have hs : addI .i64 (addI .i64 (addI .i64 (addI .i64 (lenI m.recs) (lenI m.funcs)) (lenI m.imps)) (lenI m.ints)) (lenI m.texts) = ((m.recs.length + m.funcs.length + m.imps.length + m.ints.length + m.texts.length : Nat) : Int) := by
    simp only [lenI_eq]
    rw [add3_i64 (b := ((m.funcs.length : Nat) : Int)) (by omega) (by omega) (by omega), add3_i64 (b := ((m.imps.length : Nat) : Int)) (by omega) (by omega) (by omega), add3_i64 (b := ((m.ints.length : Nat) : Int)) (by omega) (by omega) (by omega), add3_i64 (b := ((m.texts.length : Nat) : Int)) (by omega) (by omega) (by omega)]
    omega
  rw [hs]
  by_cases h200 : m.recs.length + m.funcs.length + m.imps.length + m.ints.length + m.texts.length ≤ 200
  case neg =>
    rw [decide_eq_true (by omega), cond_true]
    exact ⟨false, rfl, fun h => by cases h⟩
  rw [decide_eq_false (by omega), cond_false]
  obtain ⟨a1, e1, l1, u1, p1⟩ := loop_sum (B := fun s => ref01Light_B0 n s.1.1 s.1.2 s.2.1 s.2.2.1 s.2.2.2.1 s.2.2.2.2.1 s.2.2.2.2.2) (xs := m.recs) (mk := fun i (a : Int) => ((a, (i : Int)), mtup m)) (f := List.length) (e := fun a => (a, mtup m)) (c := 140737488351232)
    (base := ((m.recs.length + m.funcs.length + m.imps.length + m.ints.length + m.texts.length : Nat) : Int)) (by omega) hl.recs (by omega) (fun i a x hx hm h0 hcap => by
      have hi := lt_of_get hx
      show ref01Light_B0 n a (i : Int) m.recs m.funcs m.imps m.ints m.texts = _
      unfold ref01Light_B0
      rw [lenI_eq, decide_eq_true (by omega), cond_true, getI_nat, hx, Option.bind_some, lenI_eq, add3_i64 h0 (by omega) hcap, next_i64 (by omega)]) (fun a => by
      show ref01Light_B0 n a (m.recs.length : Int) m.recs m.funcs m.imps m.ints m.texts = _
      unfold ref01Light_B0
      rw [lenI_eq, decide_eq_false (by omega), cond_false]) (n := n) (by omega)
  rw [show ref01Light_W0 n ((((m.recs.length + m.funcs.length + m.imps.length + m.ints.length + m.texts.length : Nat) : Int), 0), (m.recs, (m.funcs, (m.imps, (m.ints, m.texts))))) = _ from e1, Option.bind_some]
  obtain ⟨a2, e2, l2, u2, p2⟩ := loop_sum (B := fun s => ref01Light_B2 n s.1.1 s.1.2 s.2.1 s.2.2.1 s.2.2.2.1 s.2.2.2.2.1 s.2.2.2.2.2) (xs := m.funcs) (mk := fun i (a : Int) => ((a, (i : Int)), mtup m)) (f := fun f => f.1.length + f.2.2.2.1.length + f.2.2.2.2.length) (e := fun a => (a, mtup m)) (c := 422212465053696)
    (base := a1) (by omega) (fun f hf => by obtain ⟨h1, h2, h3⟩ := hl.funcs f hf; omega) (by omega) (fun i a x hx hm h0 hcap => by
      have hi := lt_of_get hx
      show ref01Light_B2 n a (i : Int) m.recs m.funcs m.imps m.ints m.texts = _
      unfold ref01Light_B2
      rw [lenI_eq, decide_eq_true (by omega), cond_true, getI_nat, hx]
      simp only [Option.bind_some, lenI_eq]
      rw [add3_i64 (b := ((x.1.length : Nat) : Int)) h0 (by omega) (by omega), add3_i64 (b := ((x.2.2.2.1.length : Nat) : Int)) (by omega) (by omega) (by omega), add3_i64 (b := ((x.2.2.2.2.length : Nat) : Int)) (by omega) (by omega) (by omega), next_i64 (by omega)]
      have : a + ((x.1.length : Nat) : Int) + ((x.2.2.2.1.length : Nat) : Int) + ((x.2.2.2.2.length : Nat) : Int) = a + ((x.1.length + x.2.2.2.1.length + x.2.2.2.2.length : Nat) : Int) := by omega
      rw [this]) (fun a => by
      show ref01Light_B2 n a (m.funcs.length : Int) m.recs m.funcs m.imps m.ints m.texts = _
      unfold ref01Light_B2
      rw [lenI_eq, decide_eq_false (by omega), cond_false]) (n := n) (by omega)
  rw [show ref01Light_W2 n ((a1, 0), (m.recs, (m.funcs, (m.imps, (m.ints, m.texts))))) = _ from e2, Option.bind_some]
  obtain ⟨a3, e3, l3, u3, p3⟩ := loop_sum (B := fun s => ref01Light_B4 n s.1.1 s.1.2 s.2.1 s.2.2.1 s.2.2.2.1 s.2.2.2.2.1 s.2.2.2.2.2) (xs := m.imps) (mk := fun i (a : Int) => ((a, (i : Int)), mtup m)) (f := fun f => f.1.length) (e := fun a => (a, mtup m)) (c := 140737488351232)
    (base := a2) (by omega) hl.imps (by omega) (fun i a x hx hm h0 hcap => by
      have hi := lt_of_get hx
      show ref01Light_B4 n a (i : Int) m.recs m.funcs m.imps m.ints m.texts = _
      unfold ref01Light_B4
      rw [lenI_eq, decide_eq_true (by omega), cond_true, getI_nat, hx, Option.bind_some, lenI_eq, add3_i64 h0 (by omega) hcap, next_i64 (by omega)]) (fun a => by
      show ref01Light_B4 n a (m.imps.length : Int) m.recs m.funcs m.imps m.ints m.texts = _
      unfold ref01Light_B4
      rw [lenI_eq, decide_eq_false (by omega), cond_false]) (n := n) (by omega)
  rw [show ref01Light_W4 n ((a2, 0), (m.recs, (m.funcs, (m.imps, (m.ints, m.texts))))) = _ from e3, Option.bind_some]
  obtain ⟨a4, e4, l4, u4, p4⟩ := loop_sum (B := fun s => ref01Light_B6 n s.1.1 s.1.2 s.2.1 s.2.2.1 s.2.2.2.1 s.2.2.2.2.1 s.2.2.2.2.2) (xs := m.texts) (mk := fun i (a : Int) => ((a, (i : Int)), mtup m)) (f := ByteArray.size) (e := fun a => (a, mtup m)) (c := 140737488351232)
    (base := a3) (by omega) hl.texts (by omega) (fun i a x hx hm h0 hcap => by
      have hi := lt_of_get hx
      show ref01Light_B6 n a (i : Int) m.recs m.funcs m.imps m.ints m.texts = _
      unfold ref01Light_B6
      rw [lenI_eq, decide_eq_true (by omega), cond_true, getI_nat, hx, Option.bind_some, show lenS x = ((x.size : Nat) : Int) from rfl, add3_i64 h0 (by omega) hcap, next_i64 (by omega)]) (fun a => by
      show ref01Light_B6 n a (m.texts.length : Int) m.recs m.funcs m.imps m.ints m.texts = _
      unfold ref01Light_B6
      rw [lenI_eq, decide_eq_false (by omega), cond_false]) (n := n) (by omega)
  rw [show ref01Light_W6 n ((a3, 0), (m.recs, (m.funcs, (m.imps, (m.ints, m.texts))))) = _ from e4, Option.bind_some]
  refine ⟨_, rfl, fun h => ?_⟩
  have h3000 := of_decide_eq_true h
  simp only at h3000
  refine ⟨by omega, by omega, by omega, by omega, by omega, fun x hx => ?_, fun x hx => ?_, fun x hx => ?_, fun x hx => ?_⟩
  · have := p1 x hx; omega
  · have := p2 x hx; omega
  · have := p3 x hx; omega
  · have := p4 x hx; omega
end Sx
