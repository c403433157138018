/- A module's bytes are bytes. Which parts there are. -/
import Derived.Test.YtmfemlkbeehioaaMrV
set_option linter.unusedVariables false
set_option linter.unusedSimpArgs false
namespace Sx
open Go Go.Ab
def Bytes (l : List Int) : Prop := ∀ x ∈ l, 0 ≤ x ∧ x ≤ 255
theorem Bytes.app {a b : List Int} (h : Bytes a) (h' : Bytes b) : Bytes (a ++ b) := fun x hx => (List.mem_append.1 hx).elim (h x) (h' x)
theorem Bytes.flat {α : Type} {f : α → List Int} {l : List α} (h : ∀ a ∈ l, Bytes (f a)) : Bytes (l.flatMap f) := fun x hx => by
  obtain ⟨a, ha, hx⟩ := List.mem_flatMap.1 hx
  exact h a ha x hx
theorem Bytes.var {v : Nat} (h : v < 18446744073709551616) : Bytes (varN v) := varN_bytes h
theorem Bytes.list {α : Type} {f : α → List Int} {l : List α} (hl : l.length < 18446744073709551616) (h : ∀ a ∈ l, Bytes (f a)) : Bytes (listV f l) := (Bytes.var hl).app (Bytes.flat h)
theorem Bytes.typ {t : TyD} (h : okT t) : Bytes (typV t) := by
  have h1 := h.1; have h2 := h.2
  unfold okI at h1 h2
  exact (Bytes.var (by unfold pos; omega)).app (Bytes.var (by unfold pos; omega))
theorem Bytes.types {l : List TyD} (hl : l.length < 18446744073709551616) (h : okTs l) : Bytes (typesV l) := (Bytes.var hl).app (Bytes.flat fun t ht => Bytes.typ (h t ht))
theorem Bytes.put (i : InD) : Bytes (putV i) := by
  intro x hx
  unfold putV at hx
  split at hx
  · cases hx
  · rename_i hb
    have hb := Bool.not_eq_true _ ▸ hb
    unfold badI at hb
    have hb := of_decide_eq_false hb
    have ha := argsV_in (op := i.1) (by omega)
    rcases List.mem_cons.1 hx with rfl | hx
    · omega
    · rcases List.mem_append.1 hx with hx | hx
      · split at hx
        · exact varN_bytes (by omega) x hx
        · cases hx
      · split at hx
        · exact varN_bytes (by omega) x hx
        · cases hx
theorem Bytes.fix (k v : Nat) : Bytes (fixN k v) := by
  intro x hx
  unfold fixN at hx
  obtain ⟨i, _, rfl⟩ := List.mem_map.1 hx
  omega
theorem Bytes.text (s : ByteArray) : Bytes (bytesInts s) := by
  intro x hx
  unfold bytesInts at hx
  obtain ⟨c, _, rfl⟩ := List.mem_map.1 hx
  have := c.toNat_lt
  omega
theorem encV_bytes {m : ModD} (ho : OkM m) (hf : fitsV m = true) : Bytes (encV m) := by
  have l1 := (records_eq 200 m ho hf (by omega)).2
  have l2 := (functions_eq 200 m ho hf (by omega)).2
  have l3 := (imports_eq 200 m ho hf (by omega)).2
  have l4 := (numbers_eq 200 m ho hf (by omega)).2
  have l5 := (texts_eq 200 m hf (by omega)).2
  have hf' := hf
  unfold fitsV at hf'
  simp only [Bool.and_eq_true, decide_eq_true_eq] at hf'
  obtain ⟨h1, h2, h3, h4, h5, h6, h7, h8, h9, h10⟩ := hf'
  have b1 : Bytes (listV typesV m.recs) := Bytes.list (by omega) fun l hl => Bytes.types (by have := goodsV_len (List.all_eq_true.1 h2 l hl); omega) (ho.recs l hl)
  have b2 : Bytes (listV fncV m.funcs) := Bytes.list (by omega) fun f hf => by
    have hl := fncV_len (List.all_eq_true.1 h5 f hf)
    have ho := ho.funcs f hf
    unfold fncV
    exact ((((Bytes.types (by omega) ho.1).app (Bytes.typ ho.2.1)).app (Bytes.types (by omega) ho.2.2)).app (Bytes.var (by omega))).app (Bytes.flat fun i _ => Bytes.put i)
  have b3 : Bytes (listV impV m.imps) := Bytes.list (by omega) fun f hf => by
    have hl := impV_len (List.all_eq_true.1 h7 f hf)
    have ho := ho.imps f hf
    unfold impV
    exact (Bytes.types (by omega) ho.1).app (Bytes.typ ho.2)
  have b4 : Bytes (listV (fun v : Int => fixN 8 v.toNat) m.ints) := Bytes.list (by omega) fun v _ => Bytes.fix 8 _
  have b5 : Bytes (listV txtV m.texts) := Bytes.list (by omega) fun t ht => (Bytes.var (by have := of_decide_eq_true (List.all_eq_true.1 h10 t ht); omega)).app (Bytes.text t)
  unfold encV joinV
  refine Bytes.list (by simp) fun p hp => ?_
  have hp : p = listV typesV m.recs ∨ p = listV fncV m.funcs ∨ p = listV impV m.imps ∨ p = listV (fun v : Int => fixN 8 v.toNat) m.ints ∨ p = listV txtV m.texts := by simpa using hp
  rcases hp with rfl | rfl | rfl | rfl | rfl
  · exact (Bytes.var (by omega)).app b1
  · exact (Bytes.var (by omega)).app b2
  · exact (Bytes.var (by omega)).app b3
  · exact (Bytes.var (by omega)).app b4
  · exact (Bytes.var (by omega)).app b5
theorem qcf_eq (n : Nat) (most : Int) (xs : List Int) (b : Bool) (hm : 0 ≤ most ∧ most ≤ 4294967296) (hx : xs.length ≤ 4294967296) (hn : 20 ≤ n) :
    qcf n most xs b = some ((min (varV xs b).1 most, !(varV xs b).2.2 && decide ((varV xs b).1 ≤ most)), (varV xs b).2) := by
  unfold qcf
  have hr := varV_range xs b
  rw [var_eq n xs b hx hn]
  simp only [qbb, Option.bind_some]
  have hmax : maxI most 0 = most := by
    unfold maxI
    first | (rw [decide_eq_false (by omega)]; rfl) | (rw [decide_eq_true (by omega)]; rfl)
  rw [hmax, cvtI_u64 hm.1 (by omega)]
  have hmin : minI (varV xs b).1 most = min (varV xs b).1 most := by
    unfold minI
    by_cases h : most < (varV xs b).1
    · rw [decide_eq_true h]; simp only [cond_true]; omega
    · rw [decide_eq_false h]; simp only [cond_false]; omega
  rw [hmin, cvtI_i64 (by omega) (by omega)]
  generalize varV xs b = r at *
  obtain ⟨v, xs1, b1⟩ := r
  cases b1 with
  | true => rfl
  | false => simp only [Bool.not_false, cond_true, decide_eq_true (show most ≥ 0 from hm.1), Bool.true_and]
theorem split_tot (n : Nat) (t0 : List Int) (hx : t0.length ≤ 1000000) (hn : 6000 ≤ n) : ∃ parts e, qcb n t0 5 = some (parts, e) ∧ (∀ p ∈ parts, p.length ≤ 1000000) := by
  unfold qcb qbd
  rw [fits_le (by omega), cond_true, Option.bind_some, qcf_eq n 5 t0 false (by omega) (by omega) (by omega), Option.bind_some]
  have hl := varV_len t0 false
  have hr := varV_range t0 false
  generalize varV t0 false = r at hl hr ⊢
  obtain ⟨v, xs1, b1⟩ := r
  simp only at hl hr ⊢
  cases hok : (!b1 && decide (v ≤ 5)) with
  | false => exact ⟨_, _, rfl, by simp⟩
  | true =>
    simp only [Bool.not_true, cond_false]
    obtain ⟨t, ht⟩ : ∃ t : Nat, min v 5 = (t : Int) := ⟨(min v 5).toNat, by omega⟩
    rw [ht]
    obtain ⟨y, hy, hQ⟩ := loop_rel (B := fun s => qcb_B0 n s.1.1 s.1.2 s.2.1.1 s.2.1.2 s.2.2) (xs := List.range t) (mk := fun (i : Nat) (a : (List Int × Bool) × List (List Int)) => (((t : Int), (i : Int)), a))
      (I := fun i a => a.1.1.length ≤ 1000000 ∧ a.2.length = i ∧ ∀ p ∈ a.2, p.length ≤ 1000000)
      (Q := fun y => match y with | .inl u => ∀ p ∈ u.1.1, p.length ≤ 1000000 | .inr (.inl u) => ∀ p ∈ u.1.1, p.length ≤ 1000000 | .inr (.inr v) => ∀ p ∈ v.2, p.length ≤ 1000000)
      (fun i a x hx hI => by
        obtain ⟨⟨xs, b⟩, ps⟩ := a
        obtain ⟨h1, h2, h3⟩ := hI
        simp only at h1 h2 h3
        have hi : i < t := by have := lt_of_get hx; simpa using this
        show (∃ a', qcb_B0 n (t : Int) (i : Int) xs b ps = _ ∧ _) ∨ ∃ y, qcb_B0 n (t : Int) (i : Int) xs b ps = _ ∧ _
        unfold qcb_B0
        rw [decide_eq_true (by omega), cond_true]
        obtain ⟨most, hle, hm⟩ : ∃ most : Int, qao n xs b = some (most, (xs, b)) ∧ 0 ≤ most ∧ most ≤ 4294967296 := by
          unfold qao
          simp only [qbb, Option.bind_some]
          cases b with
          | true => exact ⟨0, rfl, by omega⟩
          | false => exact ⟨lenI xs, rfl, by rw [lenI_eq]; omega⟩
        rw [hle, Option.bind_some, qcf_eq n most xs b hm (by omega) (by omega), Option.bind_some]
        have hl2 := varV_len xs b
        generalize varV xs b = r at hl2 ⊢
        obtain ⟨v, xs2, b2⟩ := r
        simp only at hl2 ⊢
        cases hok2 : (!b2 && decide (v ≤ most)) with
        | false => right; exact ⟨_, rfl, by simp⟩
        | true =>
          simp only [Bool.not_true, cond_false]
          rw [take_eq n _ xs2 b2 (by omega), Option.bind_some, fits_le (by simp; omega), cond_true]
          have hl3 := takeV_len (min v most) xs2 b2
          generalize takeV (min v most) xs2 b2 = q at hl3 ⊢
          obtain ⟨p, xs3, b3⟩ := q
          simp only [qbb, Option.bind_some] at hl3 ⊢
          have hps : ∀ p' ∈ ps ++ [p], p'.length ≤ 1000000 := by
            intro p' hp'
            rcases List.mem_append.1 hp' with h | h
            · exact h3 p' h
            · rw [List.mem_singleton.1 h]; omega
          cases b3 with
          | true => right; exact ⟨_, rfl, by simp⟩
          | false =>
            left
            refine ⟨((xs3, false), ps ++ [p]), ?_, by simp only; omega, by simp [h2], hps⟩
            rw [next_i64 (by omega)]; rfl)
      (fun a hI => by
        obtain ⟨⟨xs, b⟩, ps⟩ := a
        refine ⟨.inr (.inr ((xs, b), ps)), ?_, hI.2.2⟩
        show qcb_B0 n (t : Int) ((List.range t).length : Int) xs b ps = _
        unfold qcb_B0
        rw [List.length_range, decide_eq_false (by omega), cond_false])
      t 0 n ((xs1, b1), []) (by simp) ⟨by simp only; omega, rfl, by simp⟩ (by omega)
    rw [show qcb_W0 n (((t : Int), 0), ((xs1, b1), [])) = some y from hy, Option.bind_some]
    rcases y with u | u | v
    · exact ⟨_, _, rfl, hQ⟩
    · exact ⟨_, _, rfl, hQ⟩
    · show ∃ parts e, ((qao n v.1.1 v.1.2).bind fun r => bif decide (r.1 > 0) then some (([] : List (List Int)), (2 : Int)) else some (v.2, 0)) = some (parts, e) ∧ _
      unfold qao
      simp only [qbb, Option.bind_some]
      cases v.1.2 with
      | true => exact ⟨_, _, rfl, hQ⟩
      | false =>
        simp only [cond_false, Option.bind_some]
        cases decide (lenI v.1.1 > 0) with
        | true => exact ⟨_, _, rfl, by simp⟩
        | false => exact ⟨_, _, rfl, hQ⟩
end Sx
