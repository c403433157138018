/- The five statements on sums, in plain words. -/
import Derived.Test.YtmlpkolbibopbaaSumLaw
set_option linter.unusedVariables false
set_option linter.unusedSimpArgs false
namespace Sx
open Go Go.Ab
theorem sums_seals (b : List Int) (hb : IsBytes b) : law02SumSeals (b.length + 4100) b = some true := by
  unfold law02SumSeals
  by_cases h : b.length > 3000
  · rw [lenI_eq, decide_eq_true (by omega), cond_true, answers_eq _ (by omega)]; rfl
  · have hs := sealV_bytes hb
    rw [lenI_eq, decide_eq_false (by omega), cond_false, Nat.ble_eq_true_of_le (by omega), cond_true, seal_eq _ b hb (by omega) (by omega)]
    show ((sumOpen _ (sealV b)).bind _) = _
    rw [open_eq _ _ hs (by rw [sealV_len]; omega) (by rw [sealV_len]; omega), open_seal, answers_eq _ (by omega)]
    show ((sumOf _ b).bind _) = _
    rw [of_eq _ b hb (by omega) (by omega), refSum_eq _ b hb (by omega) (by omega)]
    show (bif W32 (sumV b) == W32 (sumV b) then ((ref01Seal (b.length + 4100) b).bind _) else some false) = _
    rw [beq_self_eq_true, cond_true, refSeal_eq _ b hb (by omega) (by omega)]
    show ((ref01Same _ (sealV b) (sealV b)).bind _) = _
    rw [same_true _ _ (by rw [sealV_len]; omega) (by rw [sealV_len]; omega)]
    show ((ref01Same _ b b).bind _) = _
    rw [same_true _ _ (by omega) (by omega)]
    rfl
theorem sums_opens (b : List Int) (hb : IsBytes b) : law02SumOpens (b.length + 4100) b = some true := by
  unfold law02SumOpens
  by_cases h : b.length > 3000
  · rw [lenI_eq, decide_eq_true (by omega), cond_true, answers_eq _ (by omega)]; rfl
  · rw [lenI_eq, decide_eq_false (by omega), cond_false, open_eq _ b hb (by omega) (by omega)]
    show (bif decide ((b.length : Int) < 4) then _ else _) = _
    by_cases h4 : b.length < 4
    · rw [decide_eq_true (by omega), cond_true, answers_eq _ (by omega), openV, if_pos h4]; rfl
    · have hlen : (b.take (b.length - 4)).length = b.length - 4 := by rw [List.length_take]; omega
      have hsub := sub4 (b := b) (by omega) h4
      rw [lenI_eq] at hsub
      rw [decide_eq_false (by omega), cond_false, hsub, decide_eq_true (by omega), decide_eq_true (by omega), Bool.and_self, cond_true, Int.toNat_natCast, refSeal_eq _ _ (take_bytes hb _) (by omega) (by omega)]
      show ((ref01Same _ (sealV (b.take (b.length - 4))) b).bind _) = _
      rw [same_eq _ _ _ (by rw [sealV_len]; omega) (by rw [sealV_len]; omega), answers_eq _ (by omega), openV, if_neg h4]
      by_cases he : sealV (b.take (b.length - 4)) = b
      · rw [decide_eq_true he, if_pos he]
        show ((ref01Same _ (b.take (b.length - 4)) (b.take (b.length - 4))).bind _) = _
        rw [same_true _ _ (by omega) (by omega)]
        rfl
      · rw [decide_eq_false he, if_neg he]
        rfl
theorem short_eq (n : Nat) (b : List Int) : ∃ k : Nat, k < 4 ∧ k ≤ b.length ∧ law02Short n b = some (k : Int) := by
  unfold law02Short
  by_cases h : b.length < 4
  · exact ⟨b.length, h, Nat.le_refl _, by rw [lenI_eq, decide_eq_true (by omega), cond_true]⟩
  · refine ⟨b.length % 4, by omega, by omega, ?_⟩
    rw [lenI_eq, decide_eq_false (by omega), cond_false, remI_nonneg (by omega)]
    rfl
theorem sums_short (b : List Int) (hb : IsBytes b) : law02SumShort (b.length + 4100) b = some true := by
  unfold law02SumShort
  by_cases h : b.length > 1000
  · rw [lenI_eq, decide_eq_true (by omega), cond_true, answers_eq _ (by omega)]; rfl
  · obtain ⟨k, hk, hkl, hs⟩ := short_eq (b.length + 4100) b
    have hlen : (b.take k).length = k := by rw [List.length_take]; omega
    rw [lenI_eq, decide_eq_false (by omega), cond_false, hs]
    show (bif (decide (0 ≤ (k : Int)) && decide ((k : Int) ≤ ((b.length : Nat) : Int))) then _ else _) = _
    rw [decide_eq_true (by omega), decide_eq_true (by omega), Bool.and_self, cond_true, Int.toNat_natCast, open_eq _ _ (take_bytes hb _) (by omega) (by omega)]
    show ((sumSeal _ b).bind _) = _
    rw [seal_eq _ b hb (by omega) (by omega)]
    show ((sumSeal _ (sealV b)).bind _) = _
    rw [seal_eq _ _ (sealV_bytes hb) (by rw [sealV_len]; omega) (by rw [sealV_len]; omega)]
    show ((sumOpen _ (sealV (sealV b))).bind _) = _
    rw [open_eq _ _ (sealV_bytes (sealV_bytes hb)) (by rw [sealV_len, sealV_len]; omega) (by rw [sealV_len, sealV_len]; omega), open_seal]
    show ((sumOpen _ (sealV b)).bind _) = _
    rw [open_eq _ _ (sealV_bytes hb) (by rw [sealV_len]; omega) (by rw [sealV_len]; omega), open_seal, answers_eq _ (by omega), openV, if_pos (by omega)]
    show ((ref01Same _ b b).bind _) = _
    rw [same_true _ _ (by omega) (by omega)]
    rfl
/-! ### steps are one to one -/
theorem stp_bit (x : BitVec 32) (i : Nat) : (stp x).getLsbD i = (x.getLsbD (1 + i) ^^ (x.getLsbD 0 && (0xedb88320#32).getLsbD i)) := by
  unfold stp
  rw [BitVec.getLsbD_xor, BitVec.getLsbD_ushiftRight]
  cases x.getLsbD 0 with
  | true => simp
  | false => simp
theorem stp_top (x : BitVec 32) : (stp x).getLsbD 31 = x.getLsbD 0 := by
  rw [stp_bit, BitVec.getLsbD_of_ge x (1 + 31) (by omega), show (0xedb88320#32).getLsbD 31 = true from rfl]
  simp
theorem stp_inj {x y : BitVec 32} (h : stp x = stp y) : x = y := by
  have h0 : x.getLsbD 0 = y.getLsbD 0 := by rw [← stp_top, ← stp_top, h]
  refine BitVec.eq_of_getLsbD_eq fun i hi => ?_
  cases i with
  | zero => exact h0
  | succ i =>
    have h1 : (stp x).getLsbD i = (stp y).getLsbD i := by rw [h]
    rw [stp_bit, stp_bit, h0] at h1
    rw [Nat.add_comm]
    exact Bool.xor_right_inj.1 (by rw [Bool.xor_comm, h1, Bool.xor_comm]) 
theorem it_inj : ∀ {k : Nat} {x y : BitVec 32}, it stp k x = it stp k y → x = y
  | 0, _, _, h => h
  | k + 1, _, _, h => it_inj (k := k) (stp_inj h)
theorem xor_inj {x y z : BitVec 32} (h : x ^^^ z = y ^^^ z) : x = y := by
  have : (x ^^^ z) ^^^ z = (y ^^^ z) ^^^ z := by rw [h]
  rwa [BitVec.xor_assoc, BitVec.xor_assoc, BitVec.xor_self, BitVec.xor_zero, BitVec.xor_zero] at this
theorem crc_inj : ∀ {b : List Int} {x y : BitVec 32}, crc x b = crc y b → x = y
  | [], _, _, h => h
  | c :: b, x, y, h => xor_inj (it_inj (k := 8) (crc_inj (b := b) h))
theorem not_inj {x y : BitVec 32} (h : ~~~x = ~~~y) : x = y := by rw [← BitVec.not_not (b := x), h, BitVec.not_not]
theorem bst_byte {x : BitVec 32} {c d : Int} (hc : 0 ≤ c ∧ c ≤ 255) (hd : 0 ≤ d ∧ d ≤ 255) (h : bst x c = bst x d) : c = d := by
  have h1 := it_inj (k := 8) h
  rw [BitVec.xor_comm x, BitVec.xor_comm x] at h1
  have h2 := xor_inj h1
  rw [← W32_of (n := c) (by omega) (by omega), h2, W32_of (by omega) (by omega)]
theorem crc_append (x : BitVec 32) (a b : List Int) : crc x (a ++ b) = crc (crc x a) b := List.foldl_append ..
theorem sum_one {b : List Int} {k : Nat} {c d : Int} (hk : b[k]? = some c) (hc : 0 ≤ c ∧ c ≤ 255) (hd : 0 ≤ d ∧ d ≤ 255) (hne : c ≠ d) : sumV b ≠ sumV (b.set k d) := by
  intro h
  have hlt : k < b.length := by
    rcases Nat.lt_or_ge k b.length with h | h
    · exact h
    · rw [List.getElem?_eq_none h] at hk; cases hk
  have hk' : b[k] = c := by rw [List.getElem?_eq_getElem hlt] at hk; exact Option.some.inj hk
  have e1 : b = b.take k ++ c :: b.drop (k + 1) := by rw [← hk', List.getElem_cons_drop, List.take_append_drop]
  have e2 : b.set k d = b.take k ++ d :: b.drop (k + 1) := List.set_eq_take_append_cons_drop.trans (if_pos hlt)
  have h1 : crc 0xffffffff#32 b = crc 0xffffffff#32 (b.set k d) := not_inj h
  rw [e2] at h1
  have h1 : crc 0xffffffff#32 (b.take k ++ c :: b.drop (k + 1)) = crc 0xffffffff#32 (b.take k ++ d :: b.drop (k + 1)) := by rw [← e1]; exact h1
  rw [crc_append, crc_append] at h1
  exact hne (bst_byte hc hd (crc_inj (b := b.drop (k + 1)) h1))
/-! ### bytes' xor -/
theorem xor_u8 {a b : Int} (ha : 0 ≤ a ∧ a ≤ 255) (hb : 0 ≤ b ∧ b ≤ 255) : xorI .u8 a b = ((a.toNat ^^^ b.toNat : Nat) : Int) := by
  show IntKind.u8.wrap (((BitVec.ofInt 8 a ^^^ BitVec.ofInt 8 b).toNat : Nat) : Int) = _
  have h1 : (BitVec.ofInt 8 a).toNat = a.toNat := by rw [BitVec.toNat_ofInt]; omega
  have h2 : (BitVec.ofInt 8 b).toNat = b.toNat := by rw [BitVec.toNat_ofInt]; omega
  rw [BitVec.toNat_xor, h1, h2]
  have h3 : a.toNat ^^^ b.toNat < 2 ^ 8 := Nat.xor_lt_two_pow (by omega) (by omega)
  exact IntWalk.u8_in _ ⟨by omega, by omega⟩
theorem xor_byte {a b : Int} (ha : 0 ≤ a ∧ a ≤ 255) (hb : 0 ≤ b ∧ b ≤ 255) : 0 ≤ xorI .u8 a b ∧ xorI .u8 a b ≤ 255 := by
  rw [xor_u8 ha hb]
  have h3 : a.toNat ^^^ b.toNat < 2 ^ 8 := Nat.xor_lt_two_pow (by omega) (by omega)
  omega
theorem xor_ne {a b : Int} (ha : 0 ≤ a ∧ a ≤ 255) (hb : 0 ≤ b ∧ b ≤ 255) (h0 : b ≠ 0) : a ≠ xorI .u8 a b := by
  rw [xor_u8 ha hb]
  intro h
  have h1 : a.toNat ^^^ b.toNat = a.toNat := by omega
  have h2 : a.toNat ^^^ (a.toNat ^^^ b.toNat) = a.toNat ^^^ a.toNat := by rw [h1]
  rw [← Nat.xor_assoc, Nat.xor_self, Nat.zero_xor] at h2
  omega
theorem sums_one (b : List Int) (a t : Int) (hb : IsBytes b) (ha : 0 ≤ a ∧ a ≤ 65535) (ht : 0 ≤ t ∧ t ≤ 255) : law02SumOne (b.length + 4100) b a t = some true := by
  unfold law02SumOne
  by_cases h0 : b.length = 0
  · rw [lenI_eq, show ((b.length : Int) == 0) = true by rw [h0]; rfl, cond_true, answers_eq _ (by omega)]; rfl
  · have hz : ((b.length : Int) == 0) = false := by rw [beq_eq_false_iff_ne]; omega
    rw [lenI_eq, hz, cond_false]
    by_cases h1 : b.length > 1000
    · rw [decide_eq_true (by omega), cond_true, answers_eq _ (by omega)]; rfl
    · rw [decide_eq_false (by omega), cond_false]
      by_cases h2 : t = 0
      · rw [h2, beq_self_eq_true, cond_true, answers_eq _ (by omega)]; rfl
      · have hk : remI (cvtI .i64 a) (b.length : Int) = ((a.toNat % b.length : Nat) : Int) := by
          rw [cvtI_i64 (by omega) (by omega), remI_nonneg ha.1]
          have : (a.toNat : Int) = a := by omega
          rw [Int.natCast_emod, this]
        have hlt : a.toNat % b.length < b.length := Nat.mod_lt _ (by omega)
        rw [beq_false_of_ne h2, cond_false, Nat.ble_eq_true_of_le (by omega), cond_true, Bool.not_false, cond_true, hk, decide_eq_true (by omega), decide_eq_true (by omega), Bool.and_self, cond_true, Int.toNat_natCast]
        have hg : b[a.toNat % b.length]? = some b[a.toNat % b.length] := List.getElem?_eq_getElem hlt
        have hc := hb _ (List.getElem_mem hlt)
        rw [hg, Option.bind_some, cond_true, Nat.ble_eq_true_of_le (by omega), cond_true, answers_eq _ (by omega)]
        have hb2 : IsBytes (b.set (a.toNat % b.length) (xorI .u8 b[a.toNat % b.length] t)) := by
          intro x hx
          rcases List.mem_or_eq_of_mem_set hx with hx | rfl
          · exact hb x hx
          · exact xor_byte hc ht
        show ((sumOf _ b).bind _) = _
        rw [of_eq _ b hb (by omega) (by omega), of_eq _ _ hb2 (by rw [List.length_set]; omega) (by rw [List.length_set]; omega)]
        show some (W32 (sumV b) != W32 (sumV (b.set (a.toNat % b.length) (xorI .u8 b[a.toNat % b.length] t)))) = _
        rw [bne_iff_ne.2 fun h => sum_one hg hc (xor_byte hc ht) (xor_ne hc ht h2) (W32_inj h)]
end Sx
