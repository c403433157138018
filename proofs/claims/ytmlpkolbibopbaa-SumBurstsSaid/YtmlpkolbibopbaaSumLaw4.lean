/- The statement on bursts, in plain words. -/
import Derived.Test.YtmlpkolbibopbaaSumLaw3
import Derived.Test.YtmlpkolbibopbaaSumRowPlain
set_option linter.unusedVariables false
set_option linter.unusedSimpArgs false
namespace Sx
open Go Go.Ab
theorem bitAt_set {m : List Int} {q : Nat} {v : Int} (hq : q < m.length) (j : Nat) : bitAt (m.set q v) j = if j / 8 = q then v.toNat.testBit (j % 8) else bitAt m j := by
  unfold bitAt
  rw [List.getD_eq_getElem?_getD, List.getD_eq_getElem?_getD, List.getElem?_set]
  by_cases h : j / 8 = q
  · rw [if_pos h.symm, if_pos h, if_pos hq]
    rfl
  · rw [if_neg (fun e => h e.symm), if_neg h]
structure BInv (s : List Int) (k t i : Nat) (m : List Int) : Prop where
  len : m.length = s.length
  bytes : IsBytes m
  bits : ∀ j, j < 8 * s.length → bitAt m j = (bitAt s j ^^ (decide (k ≤ j) && decide (j < k + i) && t.testBit (j - k)))
theorem turned_next {k t i j : Nat} (h : j ≠ k + i ∨ t.testBit i = false) : (decide (k ≤ j) && decide (j < k + (i + 1)) && t.testBit (j - k)) = (decide (k ≤ j) && decide (j < k + i) && t.testBit (j - k)) := by
  by_cases h1 : k ≤ j
  · by_cases h2 : j < k + i
    · rw [decide_eq_true h2, decide_eq_true (by omega : j < k + (i + 1))]
    · by_cases h3 : j = k + i
      · have ht : t.testBit i = false := h.resolve_left (fun e => e h3)
        rw [show j - k = i by omega, ht]; simp
      · rw [decide_eq_false h2, decide_eq_false (by omega : ¬ j < k + (i + 1))]
  · rw [decide_eq_false h1]; rfl
theorem burst_round (n : Nat) (b s : List Int) (t : Int) (ht : 0 ≤ t ∧ t ≤ 4294967295) (k i : Nat) (m : List Int) (hs : s.length ≤ 4096) (hk : k ≤ 40000) (hi : i < 32) (hI : BInv s k t.toNat i m) :
    ∃ m', law02SumBursts_B0 n b t (k : Int) (i : Int) m = some (Sum.inl ((b, (t, ((k : Int), ((i + 1 : Nat) : Int)))), m')) ∧ BInv s k t.toNat (i + 1) m' := by
  have hlen := hI.len
  unfold law02SumBursts_B0
  have hc : cvtI .u64 (i : Int) = (i : Int) := cvtI_u64 (by omega) (by omega)
  have hsh : remI (shrI .u32 t (i : Int)) 2 = ((t.toNat / 2 ^ i % 2 : Nat) : Int) := by
    show (t.fdiv (2 ^ (min (i : Int).toNat 32))).tmod 2 = _
    rw [Int.toNat_natCast, show min i 32 = i by omega]
    obtain ⟨u, rfl⟩ : ∃ u : Nat, t = (u : Int) := ⟨t.toNat, by omega⟩
    rw [Int.toNat_natCast, Int.fdiv_eq_ediv_of_nonneg _ (Int.le_of_lt (Int.pow_pos (by omega))), show ((2 : Int) ^ i) = ((2 ^ i : Nat) : Int) by simp, ← Int.natCast_ediv, Int.tmod_eq_emod_of_nonneg (Int.natCast_nonneg _)]
    omega
  have hadd : addI .i64 (k : Int) (i : Int) = ((k + i : Nat) : Int) := by rw [addI_i64 (by omega) (by omega)]; omega
  have hnext : addI .i64 (i : Int) 1 = ((i + 1 : Nat) : Int) := by rw [addI_i64 (by omega) (by omega)]; omega
  have hmul : mulI .i64 8 (lenI m) = ((8 * m.length : Nat) : Int) := by rw [lenI_eq, mulI_i64 (by omega) (by omega)]; omega
  rw [decide_eq_true (by omega), cond_true, hc, decide_eq_true (by omega), cond_true, hsh, hadd, hnext, hmul]
  have hbit : t.toNat.testBit i = decide (t.toNat / 2 ^ i % 2 = 1) := Nat.testBit_eq_decide_div_mod_eq
  by_cases hb : t.toNat / 2 ^ i % 2 = 1
  · rw [decide_eq_true hb] at hbit
    rw [hb, show (((1 : Nat) : Int) == 1) = true from rfl, cond_true]
    by_cases hin : k + i < 8 * m.length
    · have hq : (k + i) / 8 < m.length := by omega
      have hquo : quoI .i64 ((k + i : Nat) : Int) 8 = (((k + i) / 8 : Nat) : Int) := by
        show IntKind.i64.wrap (((k + i : Nat) : Int).tdiv 8) = _
        rw [Int.tdiv_eq_ediv_of_nonneg (by omega), IntWalk.i64_in _ (by omega)]
        omega
      have hrem : remI ((k + i : Nat) : Int) 8 = (((k + i) % 8 : Nat) : Int) := by rw [remI_nonneg (by omega)]; omega
      have hr8 : (k + i) % 8 < 8 := by omega
      have hg : m[(k + i) / 8]? = some m[(k + i) / 8] := List.getElem?_eq_getElem hq
      have hby := hI.bytes _ (List.getElem_mem hq)
      rw [decide_eq_true (by omega), cond_true, hquo, hrem, cvtI_u64 (a := (((k + i) % 8 : Nat) : Int)) (by omega) (by omega), decide_eq_true (by omega), decide_eq_true (by omega), Bool.and_self, cond_true, Int.toNat_natCast, hg, Option.bind_some, decide_eq_true (by omega), cond_true,
        cond_true, Nat.ble_eq_true_of_le (by omega), cond_true]
      have hshl : shlI .u8 1 (((k + i) % 8 : Nat) : Int) = ((2 ^ ((k + i) % 8) : Nat) : Int) := by
        show IntKind.u8.wrap (1 * 2 ^ (min (((k + i) % 8 : Nat) : Int).toNat 8)) = _
        rw [Int.toNat_natCast, show min ((k + i) % 8) 8 = (k + i) % 8 by omega, Int.one_mul, show ((2 : Int) ^ ((k + i) % 8)) = ((2 ^ ((k + i) % 8) : Nat) : Int) by simp]
        have : 2 ^ ((k + i) % 8) ≤ 2 ^ 7 := Nat.pow_le_pow_right (by omega) (by omega)
        exact IntWalk.u8_in _ ⟨Int.natCast_nonneg _, by omega⟩
      have hpw : 2 ^ ((k + i) % 8) ≤ 2 ^ 7 := Nat.pow_le_pow_right (by omega) (by omega)
      have hsb : 0 ≤ shlI .u8 1 (((k + i) % 8 : Nat) : Int) ∧ shlI .u8 1 (((k + i) % 8 : Nat) : Int) ≤ 255 := by rw [hshl]; exact ⟨Int.natCast_nonneg _, by omega⟩
      refine ⟨_, rfl, ⟨by rw [List.length_set, hlen], ?_, fun j hj => ?_⟩⟩
      · intro x hx
        rcases List.mem_or_eq_of_mem_set hx with hx | rfl
        · exact hI.bytes x hx
        · exact xor_byte hby hsb
      · rw [bitAt_set hq]
        have hold := hI.bits j hj
        by_cases hjq : j / 8 = (k + i) / 8
        · have hm : bitAt m j = m[(k + i) / 8].toNat.testBit (j % 8) := by
            unfold bitAt
            rw [hjq, List.getD_eq_getElem?_getD, hg]; rfl
          rw [if_pos hjq, xor_u8 hby hsb, hshl, Int.toNat_natCast, Int.toNat_natCast, Nat.testBit_xor, Nat.testBit_two_pow, ← hm, hold]
          by_cases hj2 : j = k + i
          · rw [decide_eq_true (by omega : (k + i) % 8 = j % 8), decide_eq_true (by omega : k ≤ j), decide_eq_false (by omega : ¬ j < k + i), decide_eq_true (by omega : j < k + (i + 1)), show j - k = i by omega, hbit]
            cases bitAt s j <;> rfl
          · rw [decide_eq_false (by omega : ¬ (k + i) % 8 = j % 8), turned_next (.inl hj2)]
            simp
        · rw [if_neg hjq, hold, turned_next (.inl (by intro e; exact hjq (by rw [e])))]
    · rw [decide_eq_false (by omega), cond_false]
      exact ⟨m, rfl, hlen, hI.bytes, fun j hj => by rw [hI.bits j hj, turned_next (.inl (by omega))]⟩
  · rw [decide_eq_false hb] at hbit
    have h0 : t.toNat / 2 ^ i % 2 = 0 := by omega
    rw [h0, show (((0 : Nat) : Int) == 1) = false from rfl, cond_false]
    exact ⟨m, rfl, hlen, hI.bytes, fun j hj => by rw [hI.bits j hj, turned_next (.inr hbit)]⟩
theorem burst_loop (n : Nat) (b s : List Int) (t : Int) (ht : 0 ≤ t ∧ t ≤ 4294967295) (k : Nat) (hs : s.length ≤ 4096) (hk : k ≤ 40000) (hb : IsBytes s) (hn : 40 ≤ n) :
    ∃ m, law02SumBursts_W0 n ((b, (t, ((k : Int), 0))), s) = some (b, m) ∧ BInv s k t.toNat 32 m := by
  have := loopS_post (B := fun s => law02SumBursts_B0 n s.1.1 s.1.2.1 s.1.2.2.1 s.1.2.2.2 s.2) (I := fun q => ∃ (i : Nat) (m : List Int), i ≤ 32 ∧ q = ((b, (t, ((k : Int), (i : Int)))), m) ∧ BInv s k t.toNat i m)
    (m := fun q => 32 - q.1.2.2.2.toNat) (Q := fun x => ∃ m, x = (b, m) ∧ BInv s k t.toNat 32 m) (fun q hq => ?_) n ((b, (t, ((k : Int), ((0 : Nat) : Int)))), s) ⟨0, s, by omega, rfl, rfl, hb, fun j hj => by rw [show (decide (k ≤ j) && decide (j < k + 0) && t.toNat.testBit (j - k)) = false by by_cases h : k ≤ j <;> simp [h]; omega]; simp⟩ (by show 32 - ((0 : Nat) : Int).toNat < n; omega)
  · obtain ⟨x, hx, m, rfl, hm⟩ := this
    exact ⟨m, hx, hm⟩
  · obtain ⟨i, m, hi, rfl, hI⟩ := hq
    rcases Nat.lt_or_ge i 32 with h | h
    · obtain ⟨m', h1, h2⟩ := burst_round n b s t ht k i m hs hk h hI
      refine .inl ⟨_, h1, ⟨i + 1, m', by omega, rfl, h2⟩, ?_⟩
      show 32 - ((i + 1 : Nat) : Int).toNat < 32 - (i : Int).toNat
      omega
    · obtain rfl : i = 32 := by omega
      refine .inr ⟨(b, m), ?_, m, rfl, hI⟩
      show law02SumBursts_B0 n b t (k : Int) ((32 : Nat) : Int) m = _
      unfold law02SumBursts_B0
      rfl
theorem sums_bursts (b : List Int) (a t : Int) (hb : IsBytes b) (ha : 0 ≤ a ∧ a ≤ 65535) (ht : 0 ≤ t ∧ t ≤ 4294967295) : law02SumBursts (b.length + 4100) b a t = some true := by
  unfold law02SumBursts
  by_cases h0 : b.length > 500
  · rw [lenI_eq, decide_eq_true (by omega), cond_true, answers_eq _ (by omega)]; rfl
  · rw [lenI_eq, decide_eq_false (by omega), cond_false]
    by_cases h1 : t = 0
    · rw [h1, beq_self_eq_true, cond_true, answers_eq _ (by omega)]; rfl
    · have hsl := sealV_len b
      have hsb := sealV_bytes hb
      rw [beq_false_of_ne h1, cond_false, refSeal_eq _ b hb (by omega) (by omega), Option.bind_some]
      have hmul : mulI .i64 8 (lenI (sealV b)) = ((8 * (sealV b).length : Nat) : Int) := by rw [lenI_eq, mulI_i64 (by omega) (by omega)]; omega
      have hk : remI (cvtI .i64 a) ((8 * (sealV b).length : Nat) : Int) = ((a.toNat % (8 * (sealV b).length) : Nat) : Int) := by
        rw [cvtI_i64 (by omega) (by omega), remI_nonneg ha.1]
        have : (a.toNat : Int) = a := by omega
        rw [Int.natCast_emod, this]
      have hlt : a.toNat % (8 * (sealV b).length) < 8 * (sealV b).length := Nat.mod_lt _ (by omega)
      rw [hmul, beq_false_of_ne (by omega), Bool.not_false, cond_true, hk]
      obtain ⟨m, hm, hI⟩ := burst_loop (b.length + 4100) b (sealV b) t ht (a.toNat % (8 * (sealV b).length)) (by omega) (by omega) hsb (by omega)
      have hml := hI.len
      rw [hm, Option.bind_some]
      show ((sumOpen _ m).bind _) = _
      rw [open_eq _ m hI.bytes (by omega) (by omega), Option.bind_some]
      show ((ref01Seal _ b).bind _) = _
      rw [refSeal_eq _ b hb (by omega) (by omega), Option.bind_some]
      show ((ref01Same _ m (sealV b)).bind _) = _
      rw [same_eq _ _ _ (by omega) (by omega), Option.bind_some, answers_eq _ (by omega)]
      by_cases he : m = sealV b
      · rw [decide_eq_true he, cond_true, he, open_seal]; rfl
      · have ho : openV m = ([], 3) := by
          unfold openV
          rw [if_neg (by omega)]
          by_cases hs : sealV (m.take (m.length - 4)) = m
          · exact absurd (burst_free hb hI.bytes hml (k := a.toNat % (8 * (sealV b).length)) (t := t.toNat) (by omega) (fun j hj => hI.bits j (by omega)) (take_bytes hI.bytes _) hs) he
          · rw [if_neg hs]
        rw [decide_eq_false he, cond_false, ho]; rfl
theorem bursts_plain (d : List Int × Int × Int) (hf : FitS (.cons (.sl true false (.int .u8)) (.cons (.int .u16) (.cons (.int .u32) .nil))) d) : ∃ n, law02SumBursts n d.1 d.2.1 d.2.2 = some true :=
  ⟨_, sums_bursts d.1 d.2.1 d.2.2 (bytes_fit hf.1) (wf_u16 hf.2.1) (wf_u32 hf.2.2.1)⟩
end Sx
